/- A language of values without memory: what a value reads as, the state of a call, the operations. -/
import Derived.WalkKit
import Derived.WalkSpells
import Derived.Below
namespace Go.Proofs.Ytecoemdhnphmdaa
open Go.RowKit
set_option linter.unusedVariables false
set_option linter.unusedSimpArgs false
set_option linter.unnecessarySimpa false
/-- What is known of a value. -/
inductive AV where
  | any
  | v (x : Value)
  | list (n : Nat) (xs : List (List AV)) (tk : Option Nat)
  | agg (cs : List AV)
  | tup (cs : List AV)
  | ptr (b off : Nat)
  | ref (cs : List AV)
  | fn (f : Fn) (first captured : List AV)
  | vs (b len n : Nat)
  deriving Inhabited
/-- Memory that never changes again. -/
abbrev Mem := Nat → Nat → Option Value
structure Spare where
  g : Nat
  lo : Nat
  hi : Nat
abbrev Rho := Nat → Option Nat
abbrev Sig := Nat → Option Spare
def rho0 : Rho := fun _ => none
def sig0 : Sig := fun _ => none
/-- The end of a slice is that of its token. -/
def TokOk (σ : Sig) (t : Option Nat) (g lo hi : Nat) : Prop := ∀ k, t = some k → lo = hi ∨ ∃ s, σ k = some s ∧ s.g = g ∧ s.lo = lo ∧ s.hi = hi
/-- A value of the model reads as. -/
inductive Rd (M : Mem) : Rho → Sig → Value → AV → Prop
  | any {ρ : Rho} {σ : Sig} {c : Value} : Rd M ρ σ c .any
  | v {ρ : Rho} {σ : Sig} {x : Value} : Rd M ρ σ x (.v x)
  | nil {ρ : Rho} {σ : Sig} {n : Nat} {t : Option Nat} : Rd M ρ σ (.slice none 0 0) (.list n [] t)
  | list {ρ : Rho} {σ : Sig} {g off len cap n : Nat} {xs : List (List AV)} {t : Option Nat} (cf : Nat → Nat → Value) (hl : xs.length = len) (hc : len ≤ cap)
      (hn : ∀ i (h : i < xs.length), (xs[i]).length = n)
      (hm : ∀ i j, i < xs.length → j < n → M g (off + i * n + j) = some (cf i j)) (h1 : ∀ i j, (cf i j).oneCell' = true)
      (hr : ∀ i j (h : i < xs.length) (h' : j < (xs[i]).length), Rd M rho0 sig0 (cf i j) ((xs[i])[j]))
      (ht : TokOk σ t g (off + len * n) (off + cap * n)) : Rd M ρ σ (.slice (some ⟨g, off, none⟩) len cap) (.list n xs t)
  | agg {ρ : Rho} {σ : Sig} {cs : Array Value} {as : List AV} (hl : cs.size = as.length) (h1 : ∀ i (h : i < cs.size), (cs[i]).oneCell' = true) (hr : ∀ i (h : i < cs.size) (h' : i < as.length), Rd M ρ σ cs[i] as[i]) : Rd M ρ σ (.agg cs) (.agg as)
  | tup {ρ : Rho} {σ : Sig} {cs : Array Value} {as : List AV} (hl : cs.size = as.length) (hr : ∀ i (h : i < cs.size) (h' : i < as.length), Rd M ρ σ cs[i] as[i]) : Rd M ρ σ (.tuple cs) (.tup as)
  | ptr {ρ : Rho} {σ : Sig} {b off g : Nat} (h : ρ b = some g) : Rd M ρ σ (.pointer (some ⟨g, off, none⟩)) (.ptr b off)
  | ref {ρ : Rho} {σ : Sig} {g off : Nat} {as : List AV} (cf : Nat → Value) (hm : ∀ j, j < as.length → M g (off + j) = some (cf j)) (h1 : ∀ j, (cf j).oneCell' = true) (hr : ∀ j (h : j < as.length), Rd M rho0 sig0 (cf j) as[j]) : Rd M ρ σ (.pointer (some ⟨g, off, none⟩)) (.ref as)
  | fn {ρ : Rho} {σ : Sig} {f : Fn} {fs cs : Array Value} {as bs : List AV} (hl : fs.size = as.length) (hr : ∀ i (h : i < fs.size) (h' : i < as.length), Rd M ρ σ fs[i] as[i]) (hl2 : cs.size = bs.length) (hr2 : ∀ i (h : i < cs.size) (h' : i < bs.length), Rd M ρ σ cs[i] bs[i]) : Rd M ρ σ (.func f fs cs) (.fn f as bs)
  | vs {ρ : Rho} {σ : Sig} {b g len cap n : Nat} (h : ρ b = some g) (hl : len ≤ cap) : Rd M ρ σ (.slice (some ⟨g, 0, none⟩) len cap) (.vs b len n)
theorem TokOk.mono {σ σ' : Sig} {t : Option Nat} {g lo hi : Nat} (h : TokOk σ t g lo hi) (hs : ∀ k s, σ k = some s → σ' k = some s) : TokOk σ' t g lo hi := fun k hk =>
  (h k hk).imp id fun ⟨s, h1, h2⟩ => ⟨s, hs k s h1, h2⟩
theorem Rd.mono {M M' : Mem} (hM : ∀ g o c, M g o = some c → M' g o = some c) {ρ : Rho} {σ : Sig} {c : Value} {a : AV} (h : Rd M ρ σ c a) :
    ∀ (ρ' : Rho) (σ' : Sig), (∀ b g, ρ b = some g → ρ' b = some g) → (∀ k s, σ k = some s → σ' k = some s) → Rd M' ρ' σ' c a := by
  induction h with
  | any => exact fun _ _ _ _ => .any
  | v => exact fun _ _ _ _ => .v
  | nil => exact fun _ _ _ _ => .nil
  | list cf hl hc hn hm ho hr ht ih => exact fun ρ' σ' h1 h2 => .list cf hl hc hn (fun i j hi hj => hM _ _ _ (hm i j hi hj)) ho (fun i j hi hj => ih i j hi hj rho0 sig0 (fun _ _ h => h) (fun _ _ h => h)) (ht.mono h2)
  | agg hl ho hr ih => exact fun ρ' σ' h1 h2 => .agg hl ho fun i h h' => ih i h h' ρ' σ' h1 h2
  | tup hl hr ih => exact fun ρ' σ' h1 h2 => .tup hl fun i h h' => ih i h h' ρ' σ' h1 h2
  | ptr h => exact fun ρ' σ' h1 h2 => .ptr (h1 _ _ h)
  | ref cf hm ho hr ih => exact fun ρ' σ' h1 h2 => .ref cf (fun j hj => hM _ _ _ (hm j hj)) ho (fun j hj => ih j hj rho0 sig0 (fun _ _ h => h) (fun _ _ h => h))
  | fn hl hr hl2 hr2 ih ih2 => exact fun ρ' σ' h1 h2 => .fn hl (fun i h h' => ih i h h' ρ' σ' h1 h2) hl2 (fun i h h' => ih2 i h h' ρ' σ' h1 h2)
  | vs h hl => exact fun ρ' σ' h1 h2 => .vs (h1 _ _ h) hl
theorem Rd.up {M : Mem} {ρ ρ' : Rho} {σ σ' : Sig} {c : Value} {a : AV} (h : Rd M ρ σ c a) (hr : ∀ b g, ρ b = some g → ρ' b = some g) (hs : ∀ k s, σ k = some s → σ' k = some s) : Rd M ρ' σ' c a := h.mono (fun _ _ _ h => h) ρ' σ' hr hs
theorem Rd.of0 {M : Mem} {ρ' : Rho} {σ' : Sig} {c : Value} {a : AV} (h : Rd M rho0 sig0 c a) : Rd M ρ' σ' c a := h.up (fun _ _ h => by cases h) (fun _ _ h => by cases h)

/-! ### Data: without tokens and pointers to variables -/
def dat0 : AV → AV
  | .v x => .v x
  | .list n xs _ => .list n xs none
  | .ref cs => .ref cs
  | .fn f [] [] => .fn f [] []
  | _ => .any
def dat1 : AV → AV
  | .agg cs => .agg (cs.map dat0)
  | x => dat0 x
def dat2 : AV → AV
  | .tup cs => .tup (cs.map dat1)
  | x => dat1 x
theorem TokOk.none {σ : Sig} {g lo hi : Nat} : TokOk σ none g lo hi := fun _ h => by cases h
theorem Rd.dat0 {M : Mem} {ρ : Rho} {σ : Sig} {c : Value} {a : AV} (h : Rd M ρ σ c a) : Rd M rho0 sig0 c (dat0 a) := by
  cases h with
  | any => exact .any
  | v => exact .v
  | nil => exact .nil
  | list cf hl hc hn hm ho hr ht => exact .list cf hl hc hn hm ho hr .none
  | agg => exact .any
  | tup => exact .any
  | ptr => exact .any
  | ref cf hm ho hr => exact .ref cf hm ho hr
  | @fn _ _ f fs cs as bs hl hr hl2 hr2 =>
    cases as with
    | cons => exact .any
    | nil =>
      cases bs with
      | cons => exact .any
      | nil => exact .fn hl (fun i h h' => by cases h') hl2 (fun i h h' => by cases h')
  | vs => exact .any
theorem Rd.dat1 {M : Mem} {ρ : Rho} {σ : Sig} {c : Value} {a : AV} (h : Rd M ρ σ c a) : Rd M rho0 sig0 c (dat1 a) := by
  cases h with
  | agg hl ho hr => exact .agg (by simpa using hl) ho fun i h h' => by simpa using (hr i h (by simpa using h')).dat0
  | any => exact .any
  | v => exact Rd.dat0 (ρ := ρ) (σ := σ) .v
  | nil => exact .nil
  | list cf hl hc hn hm ho hr ht => exact Rd.dat0 (ρ := ρ) (σ := σ) (.list cf hl hc hn hm ho hr ht)
  | tup => exact .any
  | ptr => exact .any
  | ref cf hm ho hr => exact .ref cf hm ho hr
  | fn hl hr hl2 hr2 => exact Rd.dat0 (ρ := ρ) (σ := σ) (.fn hl hr hl2 hr2)
  | vs => exact .any
theorem Rd.dat2 {M : Mem} {ρ : Rho} {σ : Sig} {c : Value} {a : AV} (h : Rd M ρ σ c a) : Rd M rho0 sig0 c (dat2 a) := by
  cases h with
  | tup hl hr => exact .tup (by simpa using hl) fun i h h' => by simpa using (hr i h (by simpa using h')).dat1
  | agg hl ho hr => exact Rd.dat1 (ρ := ρ) (σ := σ) (.agg hl ho hr)
  | any => exact .any
  | v => exact Rd.dat0 (ρ := ρ) (σ := σ) .v
  | nil => exact .nil
  | list cf hl hc hn hm ho hr ht => exact Rd.dat0 (ρ := ρ) (σ := σ) (.list cf hl hc hn hm ho hr ht)
  | ptr => exact .any
  | ref cf hm ho hr => exact .ref cf hm ho hr
  | fn hl hr hl2 hr2 => exact Rd.dat0 (ρ := ρ) (σ := σ) (.fn hl hr hl2 hr2)
  | vs => exact .any

/-! ### The state of a call -/
structure AS where
  env : List AV
  box : List (Option (List AV))
  tok : List (Nat × Bool)
  nin : Nat
inductive Wr where
  | env (t : Nat) (v : AV)
  | box (b : Nat) (cs : List AV)
  | tok (t : Nat) (x : Bool)
def AS.ap (s : AS) : Wr → AS
  | .env t v => { s with env := s.env.set t v }
  | .box b cs => { s with box := s.box.set b (some cs) }
  | .tok t x => { s with tok := (t, x) :: s.tok }
def AS.aps (s : AS) (l : List Wr) : AS := l.foldl AS.ap s
def AS.bx (s : AS) (b : Nat) : Option (List AV) := (s.box[b]?).getD none
def AS.tk (s : AS) (t : Nat) : Option Bool := s.tok.lookup t
def AS.at (s : AS) (t : Nat) : AV := (s.env[t]?).getD .any
def nrm : Value → AV
  | .agg cs => if cs.toList.all (·.oneCell') then .agg (cs.toList.map .v) else .v (.agg cs)
  | x => .v x
def AS.ev (s : AS) : Operand → AV
  | .tmp t => s.at t
  | .const v => nrm v
  | .global _ => .any
  | .func f => .fn (.func f) [] []
/-- The world at the call's beginning, the memory that was known, the blocks that are open to the call. -/
structure Base where
  w0 : World
  M0 : Mem
  opn : List Nat
structure SimW (B : Base) (M : Mem) (ρ : Rho) (σ : Sig) (s : AS) (a : Act) (w : World) : Prop where
  len : a.tmps.size = s.env.length
  blen : s.box.length = s.env.length
  env : ∀ t, Rd M ρ σ (a.tmps.getD t undef) (s.at t)
  nin : s.nin = B.opn.length
  own : ∀ k g g', B.opn[k]? = some g → ρ k = some g' → g' = g
  fresh : ∀ b g, s.nin ≤ b → ρ b = some g → B.w0.heap.size ≤ g
  defers : a.defers = []
  mem : ∀ g o c, M g o = some c → w.cell? ⟨g, o, none⟩ = some c
  memB : ∀ g o, g < B.w0.heap.size → M g o = B.M0 g o
  os : w.os = B.w0.os
  tape : w.tape = B.w0.tape
  output : w.output = B.w0.output
  size : B.w0.heap.size ≤ w.heap.size
  block : ∀ k, k < B.w0.heap.size → k ∉ B.opn → w.heap[k]? = B.w0.heap[k]?
  box : ∀ b cs, s.bx b = some cs → ∃ g, ρ b = some g ∧ (∃ (ccs : Array Value) (t : TypeId), w.heap[g]? = some (.cells ccs t (0, 0)) ∧ ccs.size = cs.length ∧ (∀ i (h : i < ccs.size), (ccs[i]).oneCell' = true) ∧ ∀ i (h : i < ccs.size) (h' : i < cs.length), Rd M ρ σ ccs[i] cs[i]) ∧ (∀ o, M g o = none) ∧ (B.w0.heap.size ≤ g ∨ g ∈ B.opn)
  rho : ∀ b g, ρ b = some g → ∃ cs, s.bx b = some cs
  inj : ∀ b b' g, ρ b = some g → ρ b' = some g → b = b'
  tok : ∀ t sp, s.tk t = some true → σ t = some sp → B.w0.heap.size ≤ sp.g ∧ (∃ (ccs : Array Value) (ty : TypeId), w.heap[sp.g]? = some (.cells ccs ty (0, 0)) ∧ sp.lo ≤ sp.hi ∧ sp.hi ≤ ccs.size) ∧ (∀ o, sp.lo ≤ o → o < sp.hi → M sp.g o = none) ∧ (∀ b, ρ b ≠ some sp.g)
  sig : ∀ t sp, σ t = some sp → s.tk t ≠ none
  tinj : ∀ t t' sp sp', s.tk t = some true → s.tk t' = some true → σ t = some sp → σ t' = some sp' → sp.g = sp'.g → t = t'
def Sim (B : Base) (s : AS) (a : Act) (w : World) : Prop := ∃ M ρ σ, SimW B M ρ σ s a w
theorem Rd.nrm {M : Mem} {ρ : Rho} {σ : Sig} (c : Value) : Rd M ρ σ c (nrm c) := by
  unfold Go.Proofs.Ytecoemdhnphmdaa.nrm
  split
  · rename_i cs
    split
    · rename_i h
      refine .agg (by simp) (fun i hi => ?_) (fun i hi hi' => ?_)
      · exact List.all_eq_true.1 h _ (by simp)
      · simp only [List.getElem_map, Array.getElem_toList]; exact .v
    · exact .v
  · exact .v
theorem SimW.ev {B : Base} {M : Mem} {ρ : Rho} {σ : Sig} {s : AS} {a : Act} {w : World} (h : SimW B M ρ σ s a w) (x : Operand) : Rd M ρ σ (a.eval x) (s.ev x) := by
  cases x with
  | tmp t => exact h.env t
  | const c => exact Rd.nrm c
  | global g => exact .any
  | func f => exact .fn rfl (fun i h h' => by cases h') rfl (fun i h h' => by cases h')
theorem getD_set_at {α : Type} (l : List α) (i j : Nat) (v d : α) : ((l.set i v)[j]?).getD d = if j = i ∧ i < l.length then v else (l[j]?).getD d := by
  rw [List.getElem?_set]
  by_cases h : i = j
  · subst h
    by_cases h2 : i < l.length
    · simp [h2]
    · simp [h2]
  · have h3 : ¬ j = i := fun e => h e.symm
    simp [h, h3]
theorem AS.at_set (s : AS) (t t' : Nat) (v : AV) : (s.ap (.env t v)).at t' = if t' = t ∧ t < s.env.length then v else s.at t' := by
  unfold AS.ap AS.at
  exact getD_set_at _ _ _ _ _
/-- A slot is written. -/
theorem SimW.put {B : Base} {M : Mem} {ρ : Rho} {σ : Sig} {s : AS} {a : Act} {w : World} (h : SimW B M ρ σ s a w) {c : Value} {v : AV} (hr : Rd M ρ σ c v) (d : Nat) : SimW B M ρ σ (s.ap (.env d v)) (a.put (some d) c) w :=
  { h with
    len := by simp [AS.ap, Act.put, h.len]
    blen := by simp [AS.ap, h.blen]
    env := fun t => by
      rw [AS.at_set]
      have e : (a.put (some d) c).tmps.getD t undef = if t = d ∧ d < a.tmps.size then c else a.tmps.getD t undef := by
        simp only [Act.put, Array.getD_eq_getD_getElem?, Array.getElem?_setIfInBounds]
        by_cases h1 : d = t
        · subst h1
          by_cases h2 : d < a.tmps.size
          · simp [h2]
          · simp [h2]
        · have h3 : ¬ t = d := fun e => h1 e.symm
          simp [h1, h3]
      rw [e, h.len]
      by_cases h1 : t = d ∧ d < s.env.length
      · rw [if_pos h1, if_pos h1]; exact hr
      · rw [if_neg h1, if_neg h1]; exact h.env t }
end Go.Proofs.Ytecoemdhnphmdaa
