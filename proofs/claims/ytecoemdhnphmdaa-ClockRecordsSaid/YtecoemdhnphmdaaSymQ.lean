/- The program's own types; small words for the functions without memory. -/
import Derived.Test.YtecoemdhnphmdaaSymP
import Derived.Test.YtecoemdhnphmdaaProg
import Derived.KernelRfl
namespace Go.Proofs.Ytecoemdhnphmdaa
open Go.RowKit
set_option linter.unusedVariables false
set_option linter.unusedSimpArgs false
set_option linter.unnecessarySimpa false
def tabOf (P : Program) : Tab where
  u := P.underlying
  i := fun t => match P.info? t with | some i => some (i.size, i.bytes) | none => none
  z := fun t => match P.info? t with
    | some i => (match i.zero with | some z => if z.cells.toList.all (·.oneCell') then some (z.cells.toList.map .v) else none | none => none)
    | none => none
  q := fun t => !P.stoodInHeld t && !P.eqGuardType P.depth t
theorem tabOf_ok (P : Program) : TabOk P (tabOf P) where
  u := fun t d h => h
  q := fun t h => by simpa [tabOf] using h
  i := fun t p h => by
    simp only [tabOf] at h
    split at h
    · rename_i i hi; cases h; exact ⟨i, hi, rfl, rfl⟩
    · cases h
  z := fun t z h => by
    simp only [tabOf] at h
    split at h
    · rename_i i hi
      split at h
      · rename_i v hv
        split at h
        · rename_i hall
          cases h
          exact ⟨i, v, hi, hv, fun M ρ σ => ⟨by simp, fun j hj => List.all_eq_true.1 hall _ (by simp), fun j hj hj' => by simpa using Rd.v⟩⟩
        · cases h
      · cases h
    · cases h
theorem mixed : Try.prog.follows .mixedOrders = true := by kernel_rfl
def noKeep : Nat → Keep × Keep := fun _ => (⟨[], [], [], [], []⟩, ⟨[], [], [], [], []⟩)
abbrev I (n : Int) : AV := .v (.int .i64 n)
abbrev Bo (b : Bool) : AV := .v (.bool b)
def noLoop : LoopK := ⟨fun _ _ => none, fun _ _ _ _ => none, fun _ _ _ _ _ h => by cases h⟩
def rv1 (v : AV) : Ret := ⟨v, [], none⟩
/-- The function's answer without memory. -/
abbrev ac (P : Program) (Γ : GamK) (An : Nat → Keep × Keep) (Λ : LoopK) (fn : Func) (sh : List (List (Option Nat))) (args : List AV) (bs : List (List AV)) : Option Ret := acall (tabOf P) Γ An Λ fn sh args bs
/-- A function without memory: which arguments it reads, what it hands back, its text without memory. -/
structure FSpec where
  X : Type
  Y : Type
  ash : List (List (Option Nat))
  bsh : List (List (Option Nat))
  pat : List AV → List (List AV) → Option X
  args : X → List AV
  bs : X → List (List AV)
  ret : Y → Ret
  t : X → (α : Type) → (Y → Option α) → Option α
def FSpec.d (F : FSpec) (x : F.X) : Option F.Y := F.t x F.Y some
/-- Functions that are known. -/
structure Ent (P : Program) where
  f : FuncId
  F : FSpec
  ok : ∀ x y, F.d x = some y → CallOk P f (F.args x) (F.bs x) (F.ret y)
  hp : ∀ a b x, F.pat a b = some x → a = F.args x ∧ b = F.bs x
def zipB : List (List (Option Nat)) → List (List AV) → List (List AV)
  | k :: ks, c :: cs => zipC k c :: zipB ks cs
  | _, cs => cs
theorem zipB_get : ∀ (ks : List (List (Option Nat))) (cs : List (List AV)), (zipB ks cs).length = cs.length ∧ ∀ i (h : i < (zipB ks cs).length) (h' : i < cs.length), (zipB ks cs)[i] = cs[i] ∨ ∃ k, (zipB ks cs)[i] = zipC k cs[i]
  | [], cs => ⟨by cases cs <;> rfl, fun i h h' => .inl (by cases cs <;> rfl)⟩
  | k :: ks, [] => ⟨rfl, fun i h => by cases h⟩
  | k :: ks, c :: cs => by
    obtain ⟨h1, h2⟩ := zipB_get ks cs
    refine ⟨by simp [zipB, h1], fun i h h' => ?_⟩
    cases i with
    | zero => exact .inr ⟨k, rfl⟩
    | succ i => exact h2 i (by simpa [zipB] using h) (by simpa using h')
theorem Pw.zipC {M : Mem} {ρ : Rho} {σ : Sig} {cc : Array Value} {cs : List AV} (h : Pw M ρ σ cc cs) (ks : List (Option Nat)) : Pw M ρ σ cc (zipC ks cs) := by
  obtain ⟨z1, z2⟩ := zipC_get ks cs
  refine ⟨by rw [z1]; exact h.1, h.2.1, fun i x y => ?_⟩
  have y' : i < cs.length := by omega
  rcases z2 i y y' with e | ⟨k, e⟩
  · rw [e]; exact h.2.2 i x y'
  · rw [e]; exact (h.2.2 i x y').coeC
/-- What is asked of arguments that say more. -/
theorem CallOk.coe {P : Program} {f : FuncId} {args : List AV} {bs : List (List AV)} {r : Ret} (ka kb : List (List (Option Nat))) (h : CallOk P f (zipR ka args) (zipB kb bs) r) : CallOk P f args bs r := by
  obtain ⟨h1, h2⟩ := h
  obtain ⟨a1, a2⟩ := zipR_get ka args
  obtain ⟨b1, b2⟩ := zipB_get kb bs
  refine ⟨h1, fun M w cargs gs mem hn hl hsz hr hbx => h2 M w cargs gs mem hn (by rw [b1]; exact hl) (by rw [a1]; exact hsz) (fun i x y => ?_) (fun k x y => ?_)⟩
  · have y' : i < args.length := by omega
    rcases a2 i y y' with e | ⟨k, e⟩
    · rw [e]; exact hr i x y'
    · rw [e]; exact (hr i x y').coeR
  · have y' : k < bs.length := by omega
    obtain ⟨⟨ccs, t, q1, q2⟩, q3⟩ := hbx k x y'
    rcases b2 k y y' with e | ⟨kk, e⟩
    · rw [e]; exact ⟨⟨ccs, t, q1, q2⟩, q3⟩
    · rw [e]; exact ⟨⟨ccs, t, q1, q2.zipC kk⟩, q3⟩
def gv {P : Program} : List (Ent P) → FuncId → List AV → List (List AV) → Option Ret
  | [], _, _, _ => none
  | e :: r, f, args, bs => if e.f = f then (match e.F.pat (zipR e.F.ash args) (zipB e.F.bsh bs) with | some x => (match e.F.d x with | some y => some (e.F.ret y) | none => none) | none => gv r f args bs) else gv r f args bs
def gK {P : Program} : List (Ent P) → FuncId → List AV → List (List AV) → (α : Type) → (Ret → Option α) → Option α
  | [], _, _, _, _, _ => none
  | e :: r, f, args, bs, α, k => if e.f = f then (match e.F.pat (zipR e.F.ash args) (zipB e.F.bsh bs) with | some x => (match e.F.d x with | some y => k (e.F.ret y) | none => none) | none => gK r f args bs α k) else gK r f args bs α k
theorem gK_eq {P : Program} : ∀ (es : List (Ent P)) (f : FuncId) (args : List AV) (bs : List (List AV)) (α : Type) (k : Ret → Option α) (x : α), gK es f args bs α k = some x → ∃ r, gv es f args bs = some r ∧ k r = some x
  | [], _, _, _, _, _, _, h => by cases h
  | e :: r, f, args, bs, α, k, x, h => by
    unfold gK at h
    unfold gv
    split at h
    · rename_i hf
      rw [if_pos hf]
      cases hd : e.F.pat (zipR e.F.ash args) (zipB e.F.bsh bs) with
      | some d =>
        rw [hd] at h
        simp only at h ⊢
        cases hy : e.F.d d with
        | some y => rw [hy] at h; exact ⟨e.F.ret y, rfl, h⟩
        | none => rw [hy] at h; cases h
      | none =>
        rw [hd] at h
        exact gK_eq r f args bs α k x h
    · rename_i hf
      rw [if_neg hf]
      exact gK_eq r f args bs α k x h
def gam {P : Program} (es : List (Ent P)) : GamK := ⟨gv es, gK es, gK_eq es⟩
theorem gam_ok {P : Program} : ∀ (es : List (Ent P)), GOk P (gam es).v
  | [] => fun f args bs r h => by cases h
  | e :: es => fun f args bs r h => by
    change gv (e :: es) f args bs = some r at h
    unfold gv at h
    split at h
    · rename_i hf
      subst hf
      split at h
      · rename_i x hx
        obtain ⟨h1, h2⟩ := e.hp _ _ _ hx
        split at h
        · rename_i y hy; cases h; exact .coe e.F.ash e.F.bsh (by rw [h1, h2]; exact e.ok x y hy)
        · cases h
      · exact gam_ok es _ args bs r h
    · exact gam_ok es f args bs r h
/-- A loop without memory: which states it reads, where it leads, one round of it. -/
structure LSpec where
  X : Type
  Y : Type
  p : AS → Option X
  st : X → AS
  out : Y → Out
  sp : Y → (α : Type) → (Out → Option α) → Option α
  spe : ∀ y α k, sp y α k = k (out y)
  b : X → (α : Type) → (X → Option α) → (Y → Option α) → Option α
def LSpec.L (l : LSpec) : Nat → l.X → Option l.Y
  | 0, _ => none
  | N + 1, x => l.b x l.Y (l.L N) some
def lv (N : Nat) (ls : List LSpec) (n : Nat) (s : AS) : Option Out := match ls[n]? with
  | some l => (match l.p s with | some x => (match l.L N x with | some y => some (l.out y) | none => none) | none => none)
  | none => none
def lK (N : Nat) (ls : List LSpec) (n : Nat) (s : AS) (α : Type) (k : Out → Option α) : Option α := match ls[n]? with
  | some l => (match l.p s with | some x => (match l.L N x with | some y => l.sp y α k | none => none) | none => none)
  | none => none
def lam (N : Nat) (ls : List LSpec) : LoopK := ⟨lv N ls, lK N ls, fun n s α k x h => by
  unfold lK at h
  unfold lv
  split at h
  · rename_i l hl
    split at h
    · rename_i x hx
      split at h
      · rename_i y hy
        rw [l.spe] at h
        exact ⟨l.out y, by simp only [hx, hy], h⟩
      · cases h
    · cases h
  · cases h⟩
def Par {X Y : Type} (b : X → (α : Type) → (X → Option α) → (Y → Option α) → Option α) : Prop := ∀ (x : X) (α β : Type) (kn : X → Option α) (ke : Y → Option α) (kn' : X → Option β) (ke' : Y → Option β) (r : α) (r' : β), b x α kn ke = some r → (∀ x, kn x = some r → kn' x = some r') → (∀ y, ke y = some r → ke' y = some r') → b x β kn' ke' = some r'
def ParF {X Y : Type} (t : X → (α : Type) → (Y → Option α) → Option α) : Prop := ∀ (x : X) (α β : Type) (k : Y → Option α) (k' : Y → Option β) (r : α) (r' : β), t x α k = some r → (∀ y, k y = some r → k' y = some r') → t x β k' = some r'
theorem par_ite {c : Prop} [Decidable c] {α β : Type} {a b : Option α} {a' b' : Option β} {r : α} {r' : β} (h1 : a = some r → a' = some r') (h2 : b = some r → b' = some r') : ite c a b = some r → ite c a' b' = some r' := by
  by_cases h : c
  · rw [if_pos h, if_pos h]; exact h1
  · rw [if_neg h, if_neg h]; exact h2
theorem LSpec.mono (l : LSpec) (hpar : Par l.b) : ∀ (N : Nat) (x : l.X) (y : l.Y), l.L N x = some y → l.L (N + 1) x = some y
  | 0, x, y, h => by cases h
  | N + 1, x, y, h => hpar x l.Y l.Y _ _ _ _ y y h (fun x' hx => LSpec.mono l hpar N x' y hx) (fun y' hy => hy)
theorem LSpec.up (l : LSpec) (hpar : Par l.b) {x : l.X} {y : l.Y} {N : Nat} (h : l.L N x = some y) : ∀ {M : Nat}, N ≤ M → l.L M x = some y := by
  have : ∀ k, l.L (N + k) x = some y := by
    intro k
    induction k with
    | zero => exact h
    | succ k ih => exact l.mono hpar _ x y ih
  intro M hM
  obtain ⟨k, rfl⟩ := Nat.exists_eq_add_of_le hM
  exact this k
/-- A loop's three obligations. -/
theorem loop_ok {P : Program} {T : Tab} {Γ : GamK} (hT : TabOk P T) (hG : GOk P Γ.v) (hm : P.follows .mixedOrders = true) (An : Nat → Keep × Keep) (N0 : Nat) (ls : List LSpec) (n : Nat) (c : Code) (hL : ∀ p ∈ loopsOf c (n + 1), ∀ s o, s = canon (An p.1).1 s → (lam N0 ls).v p.1 s = some o → LoopSem P p.2 s o)
    (l : LSpec) (hl : ls[n]? = some l) (hp : ∀ s x, s = canon (An n).1 s → l.p s = some x → s = l.st x) (pm : ∀ x, l.p (l.st x) = some x)
    (hb : ∀ (x : l.X) (α : Type) (kn : AS → Option α) (ke : Out → Option α), around T Γ An (lam N0 ls) n c (l.st x) kn ke = l.b x α (fun x' => kn (l.st x')) (fun y => ke (l.out y))) (hpar : Par l.b) :
    ∀ s o, s = canon (An n).1 s → (lam N0 ls).v n s = some o → LoopSem P c s o := by
  let V : Nat → AS → Option Out := fun N s => match l.p s with | some x => (match l.L N x with | some y => some (l.out y) | none => none) | none => none
  have key := loop_rule hT hG hm An (lam N0 ls) n c hL V (fun N s o hc hv => by
    simp only [V] at hv
    split at hv
    · rename_i x hx
      split at hv
      · rename_i y hy
        cases hv
        cases N with
        | zero => cases hy
        | succ N =>
          refine ⟨N, Nat.lt_succ_self _, ?_⟩
          rw [hp s x hc hx, hb]
          refine hpar x l.Y Out _ _ _ _ y (l.out y) hy (fun x' hx' => ?_) (fun y' hy' => by cases hy'; rfl)
          simp only [V, pm, hx']
      · cases hv
    · cases hv)
  intro s o hc hv
  change lv N0 ls n s = some o at hv
  unfold lv at hv
  rw [hl] at hv
  simp only at hv
  split at hv
  · rename_i x hx
    split at hv
    · rename_i y hy
      cases hv
      exact key N0 s _ hc (by simp only [V, hx, hy])
    · cases hv
  · cases hv
/-- A function's obligations. -/
def entOf {P : Program} {T : Tab} {Γ : GamK} (hT : TabOk P T) (hG : GOk P Γ.v) (hm : P.follows .mixedOrders = true) (f : FuncId) (fn : Func) (hf : P.funcs[f]? = some fn) (hname : (fn.name == "runtime.NumGoroutine") = false) (An : Nat → Keep × Keep) (Λ : LoopK)
    (hL : ∀ p ∈ loopsOf (fn.body.getD .skip) 0, ∀ s o, s = canon (An p.1).1 s → Λ.v p.1 s = some o → LoopSem P p.2 s o) (sh : List (List (Option Nat))) (F : FSpec)
    (hb : ∀ x, acall T Γ An Λ fn sh (F.args x) (F.bs x) = F.t x Ret (fun y => some (F.ret y))) (hp : ∀ a b x, F.pat a b = some x → a = F.args x ∧ b = F.bs x) (hpar : ParF F.t) : Ent P where
  f := f
  F := F
  ok := fun x y h => acall_ok hT hG hm hf hname An Λ (fun c hc p hp' => hL p (by rw [hc]; exact hp')) (by rw [hb]; exact hpar x F.Y Ret _ _ y (F.ret y) h (fun y' hy' => by cases hy'; rfl))
  hp := hp
/-- Slots that are known. -/
def AtAll (s : AS) : List (Nat × AV) → Prop
  | [] => True
  | p :: r => s.at p.1 = p.2 ∧ AtAll s r
def BxAll (s : AS) : List (Nat × List AV) → Prop
  | [] => True
  | p :: r => s.bx p.1 = some p.2 ∧ BxAll s r
/-! ### Words of the shallow forms -/
abbrev i64 (n : Int) : Int := IntKind.i64.wrap n
/-- A state of which some slots and variables are known. -/
def mkS (len : Nat) (l : List (Nat × AV)) (bx : List (Nat × List AV)) (tk : List Nat) (nin : Nat) : AS where
  env := (List.range len).map fun t => (l.lookup t).getD .any
  box := (List.range len).map fun b => bx.lookup b
  tok := tk.map fun t => (t, true)
  nin := nin
theorem AtAll.lookup {s : AS} : ∀ {l : List (Nat × AV)} {t : Nat} {v : AV}, AtAll s l → l.lookup t = some v → s.at t = v
  | [], t, v, _, h => by cases h
  | (t0, v0) :: r, t, v, ha, h => by
    rw [List.lookup_cons] at h
    by_cases e : t = t0
    · subst e; simp at h; subst h; exact ha.1
    · have e2 : (t == t0) = false := by simp [e]
      rw [e2] at h
      exact AtAll.lookup ha.2 h
theorem BxAll.lookup {s : AS} : ∀ {l : List (Nat × List AV)} {t : Nat} {v : List AV}, BxAll s l → l.lookup t = some v → s.bx t = some v
  | [], t, v, _, h => by cases h
  | (t0, v0) :: r, t, v, ha, h => by
    rw [List.lookup_cons] at h
    by_cases e : t = t0
    · subst e; simp at h; subst h; exact ha.1
    · have e2 : (t == t0) = false := by simp [e]
      rw [e2] at h
      exact BxAll.lookup ha.2 h
theorem canon_mk {kp : Keep} {s : AS} {len nin : Nat} {l : List (Nat × AV)} {bx : List (Nat × List AV)} {tk : List Nat} (h : s = canon kp s) (hlen : s.env.length = len) (hn : s.nin = nin) (hk : kp.accs.map (·.1) ++ (kp.lists.map (·.1) ++ kp.plain) = l.map (·.1)) (hbk : kp.boxes = bx.map (·.1)) (ht : (kp.accs.map (·.1) ++ kp.baccs.map fun p => tb p.1) = tk) (he : AtAll s l) (hb : BxAll s bx) : s = mkS len l bx tk nin := by
  rw [h]
  unfold canon mkS
  rw [hlen, hn]
  congr 1
  · refine List.map_congr_left fun t _ => ?_
    have e1 : ((kp.accs.map (·.1)).contains t || ((kp.lists.map (·.1)).contains t || kp.plain.contains t)) = (l.lookup t).isSome := by
      rw [lookup_contains, ← hk, Bool.eq_iff_iff]
      simp [List.mem_append]
    rw [e1]
    cases hq : l.lookup t with
    | none => rfl
    | some v => simp only [Option.isSome_some, if_true, Option.getD_some]; exact he.lookup hq
  · refine List.map_congr_left fun b _ => ?_
    have e1 : kp.boxes.contains b = (bx.lookup b).isSome := by rw [lookup_contains, ← hbk]
    rw [e1]
    cases hq : bx.lookup b with
    | none => rfl
    | some v => simp only [Option.isSome_some, if_true]; exact hb.lookup hq
  · rw [← ht]
def nthLoop (n : Nat) (c : Code) : Code := ((loopsOf c 0).lookup n).getD .skip
def anL (l : List (Keep × Keep)) (n : Nat) : Keep × Keep := (l[n]?).getD (⟨[], [], [], [], []⟩, ⟨[], [], [], [], []⟩)
end Go.Proofs.Ytecoemdhnphmdaa
