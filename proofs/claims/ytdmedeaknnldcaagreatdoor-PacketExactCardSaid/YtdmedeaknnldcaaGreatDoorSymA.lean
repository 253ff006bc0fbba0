/- A language of values without memory: what a value reads as, the state of a call, the operations. -/
import Derived.Test.YtdmedeaknnldcaaGreatDoorGlb
import Derived.WalkSpells
import Derived.Below
namespace Go.Proofs.YtdmedeaknnldcaaGreatDoor
open Go.RowKit
set_option linter.unusedVariables false
set_option linter.unusedSimpArgs false
set_option linter.unnecessarySimpa false
/-- What is known of a value. -/
inductive AV where
  | any
  | v (x : Value)
  | list (n : Nat) (xs : List (List AV)) (tk : Option Nat)
  | agg (cs : List AV)
  | tup (cs : List AV)
  | ptr (b off : Nat)
  | ref (cs : List AV)
  | fn (f : Fn) (first captured : List AV)
  | vs (b off len n : Nat)
  | ub
  deriving Inhabited
/-- Memory that never changes again. -/
abbrev Mem := Nat → Nat → Option Value
structure Spare where
  g : Nat
  lo : Nat
  hi : Nat
abbrev Rho := Nat → Option Nat
abbrev Sig := Nat → Option Spare
def rho0 : Rho := fun _ => none
def sig0 : Sig := fun _ => none
/-! Tokens come in families of 64. -/
/-- The end of a variable that slices lie over. -/
def vk (b : Nat) : Nat := 64 * (10000000 + b)
/-- The mark of a variable that slices lie over. -/
def vm (b : Nat) : Nat := vk b + 1
/-- The token of a slot at a loop's head. -/
def tA (t : Nat) : Nat := 64 * (20000000 + t)
/-- The token of an argument. -/
def tI (i : Nat) : Nat := 64 * (30000000 + i)
/-- The tokens of a variable's cell. -/
def tC (b j m : Nat) : Nat := 64 * (100000000 + 4096 * b + j) + m
/-- The tokens of an operation's slot. -/
def tD (d i : Nat) : Nat := 64 * d + i
/-- The variable of a slot, of a cell, at a loop's head. -/
def vA (t : Nat) : Nat := 1000000 + t
def vB (b j : Nat) : Nat := 2000000 + 4096 * b + j
/-- The end of a slice is that of its token. -/
def TokOk (σ : Sig) (t : Option Nat) (g lo hi : Nat) : Prop := ∀ k, t = some k → lo = hi ∨ ∃ s, σ k = some s ∧ s.g = g ∧ s.lo = lo ∧ s.hi = hi
/-- A value of the model reads as. -/
inductive Rd (M : Mem) : Rho → Sig → Value → AV → Prop
  | any {ρ : Rho} {σ : Sig} {c : Value} : Rd M ρ σ c .any
  | v {ρ : Rho} {σ : Sig} {x : Value} : Rd M ρ σ x (.v x)
  | nil {ρ : Rho} {σ : Sig} {n : Nat} {t : Option Nat} : Rd M ρ σ (.slice none 0 0) (.list n [] t)
  | list {ρ : Rho} {σ : Sig} {g off len cap n : Nat} {xs : List (List AV)} {t : Option Nat} (cf : Nat → Nat → Value) (hl : xs.length = len) (hc : len ≤ cap)
      (hn : ∀ i (h : i < xs.length), (xs[i]).length = n)
      (hm : ∀ i j, i < xs.length → j < n → M g (off + i * n + j) = some (cf i j)) (h1 : ∀ i j, (cf i j).oneCell' = true)
      (hr : ∀ i j (h : i < xs.length) (h' : j < (xs[i]).length), Rd M rho0 sig0 (cf i j) ((xs[i])[j]))
      (ht : TokOk σ t g (off + len * n) (off + cap * n)) : Rd M ρ σ (.slice (some ⟨g, off, none⟩) len cap) (.list n xs t)
  | agg {ρ : Rho} {σ : Sig} {cs : Array Value} {as : List AV} (hl : cs.size = as.length) (h1 : ∀ i (h : i < cs.size), (cs[i]).oneCell' = true) (hr : ∀ i (h : i < cs.size) (h' : i < as.length), Rd M ρ σ cs[i] as[i]) : Rd M ρ σ (.agg cs) (.agg as)
  | tup {ρ : Rho} {σ : Sig} {cs : Array Value} {as : List AV} (hl : cs.size = as.length) (hr : ∀ i (h : i < cs.size) (h' : i < as.length), Rd M ρ σ cs[i] as[i]) : Rd M ρ σ (.tuple cs) (.tup as)
  | ptr {ρ : Rho} {σ : Sig} {b off g : Nat} (h : ρ b = some g) : Rd M ρ σ (.pointer (some ⟨g, off, none⟩)) (.ptr b off)
  | ref {ρ : Rho} {σ : Sig} {g off : Nat} {as : List AV} (cf : Nat → Value) (hm : ∀ j, j < as.length → M g (off + j) = some (cf j)) (h1 : ∀ j, (cf j).oneCell' = true) (hr : ∀ j (h : j < as.length), Rd M rho0 sig0 (cf j) as[j]) : Rd M ρ σ (.pointer (some ⟨g, off, none⟩)) (.ref as)
  | fn {ρ : Rho} {σ : Sig} {f : Fn} {fs cs : Array Value} {as bs : List AV} (hl : fs.size = as.length) (hr : ∀ i (h : i < fs.size) (h' : i < as.length), Rd M ρ σ fs[i] as[i]) (hl2 : cs.size = bs.length) (hr2 : ∀ i (h : i < cs.size) (h' : i < bs.length), Rd M ρ σ cs[i] bs[i]) : Rd M ρ σ (.func f fs cs) (.fn f as bs)
  | vs {ρ : Rho} {σ : Sig} {b g off len cap n : Nat} (h : ρ b = some g) (hl : len ≤ cap) (hc : ∃ sp, σ (vk b) = some sp ∧ sp.g = g ∧ (off + cap) * n = sp.hi) : Rd M ρ σ (.slice (some ⟨g, off * n, none⟩) len cap) (.vs b off len n)
  | ub {ρ : Rho} {σ : Sig} {b : Bool} : Rd M ρ σ (.bool b) .ub
  | vsn {ρ : Rho} {σ : Sig} {b off n : Nat} : Rd M ρ σ (.slice none 0 0) (.vs b off 0 n)
  | vse {ρ : Rho} {σ : Sig} {b g o off n : Nat} : Rd M ρ σ (.slice (some ⟨g, o, none⟩) 0 0) (.vs b off 0 n)
theorem TokOk.mono {σ σ' : Sig} {t : Option Nat} {g lo hi : Nat} (h : TokOk σ t g lo hi) (hs : ∀ k s, σ k = some s → σ' k = some s) : TokOk σ' t g lo hi := fun k hk =>
  (h k hk).imp id fun ⟨s, h1, h2⟩ => ⟨s, hs k s h1, h2⟩
theorem Rd.mono {M M' : Mem} (hM : ∀ g o c, M g o = some c → M' g o = some c) {ρ : Rho} {σ : Sig} {c : Value} {a : AV} (h : Rd M ρ σ c a) :
    ∀ (ρ' : Rho) (σ' : Sig), (∀ b g, ρ b = some g → ρ' b = some g) → (∀ k s, σ k = some s → σ' k = some s) → Rd M' ρ' σ' c a := by
  induction h with
  | any => exact fun _ _ _ _ => .any
  | v => exact fun _ _ _ _ => .v
  | nil => exact fun _ _ _ _ => .nil
  | list cf hl hc hn hm ho hr ht ih => exact fun ρ' σ' h1 h2 => .list cf hl hc hn (fun i j hi hj => hM _ _ _ (hm i j hi hj)) ho (fun i j hi hj => ih i j hi hj rho0 sig0 (fun _ _ h => h) (fun _ _ h => h)) (ht.mono h2)
  | agg hl ho hr ih => exact fun ρ' σ' h1 h2 => .agg hl ho fun i h h' => ih i h h' ρ' σ' h1 h2
  | tup hl hr ih => exact fun ρ' σ' h1 h2 => .tup hl fun i h h' => ih i h h' ρ' σ' h1 h2
  | ptr h => exact fun ρ' σ' h1 h2 => .ptr (h1 _ _ h)
  | ref cf hm ho hr ih => exact fun ρ' σ' h1 h2 => .ref cf (fun j hj => hM _ _ _ (hm j hj)) ho (fun j hj => ih j hj rho0 sig0 (fun _ _ h => h) (fun _ _ h => h))
  | fn hl hr hl2 hr2 ih ih2 => exact fun ρ' σ' h1 h2 => .fn hl (fun i h h' => ih i h h' ρ' σ' h1 h2) hl2 (fun i h h' => ih2 i h h' ρ' σ' h1 h2)
  | vs h hl hc => exact fun ρ' σ' h1 h2 => .vs (h1 _ _ h) hl (hc.imp fun sp q => ⟨h2 _ _ q.1, q.2⟩)
  | ub => exact fun _ _ _ _ => .ub
  | vsn => exact fun _ _ _ _ => .vsn
  | vse => exact fun _ _ _ _ => .vse
theorem Rd.up {M : Mem} {ρ ρ' : Rho} {σ σ' : Sig} {c : Value} {a : AV} (h : Rd M ρ σ c a) (hr : ∀ b g, ρ b = some g → ρ' b = some g) (hs : ∀ k s, σ k = some s → σ' k = some s) : Rd M ρ' σ' c a := h.mono (fun _ _ _ h => h) ρ' σ' hr hs
theorem Rd.of0 {M : Mem} {ρ' : Rho} {σ' : Sig} {c : Value} {a : AV} (h : Rd M rho0 sig0 c a) : Rd M ρ' σ' c a := h.up (fun _ _ h => by cases h) (fun _ _ h => by cases h)

/-! ### A value seen by another: its variables and tokens under other names, or forgotten -/
def mp0 (f g : Nat → Option Nat) : AV → AV
  | .v x => .v x
  | .list n xs t => .list n xs (t.bind g)
  | .ref cs => .ref cs
  | .ub => .ub
  | .ptr b off => (match f b with | some b' => .ptr b' off | none => .any)
  | .vs b off len n => (match f b with | some b' => .vs b' off len n | none => .any)
  | .fn fn [] [] => .fn fn [] []
  | _ => .any
def mp1 (f g : Nat → Option Nat) : AV → AV
  | .agg cs => .agg (cs.map (mp0 f g))
  | .fn fn as bs => .fn fn (as.map (mp0 f g)) (bs.map (mp0 f g))
  | x => mp0 f g x
def mp2 (f g : Nat → Option Nat) : AV → AV
  | .tup cs => .tup (cs.map (mp1 f g))
  | x => mp1 f g x
def no1 : Nat → Option Nat := fun _ => none
/-- Data: without tokens and pointers to variables. -/
def dat0 : AV → AV := mp0 no1 no1
def dat1 : AV → AV
  | .agg cs => .agg (cs.map dat0)
  | x => dat0 x
def dat2 : AV → AV
  | .tup cs => .tup (cs.map dat1)
  | x => dat1 x
theorem TokOk.none {σ : Sig} {g lo hi : Nat} : TokOk σ none g lo hi := fun _ h => by cases h
/-- How names go over into names. -/
structure Ren (f g : Nat → Option Nat) (ρ : Rho) (σ : Sig) (ρ' : Rho) (σ' : Sig) : Prop where
  box : ∀ b b' x, f b = some b' → ρ b = some x → ρ' b' = some x
  tok : ∀ t t' sp, g t = some t' → σ t = some sp → σ' t' = some sp
  cap : ∀ b b' sp, f b = some b' → σ (vk b) = some sp → σ' (vk b') = some sp
theorem Ren.no (ρ : Rho) (σ : Sig) (ρ' : Rho) (σ' : Sig) : Ren no1 no1 ρ σ ρ' σ' := ⟨fun _ _ _ h => (by cases h), fun _ _ _ h => (by cases h), fun _ _ _ h => by cases h⟩
theorem Rd.mp0 {M : Mem} {f g : Nat → Option Nat} {ρ : Rho} {σ : Sig} {ρ' : Rho} {σ' : Sig} (R : Ren f g ρ σ ρ' σ') {c : Value} {a : AV} (h : Rd M ρ σ c a) : Rd M ρ' σ' c (mp0 f g a) := by
  cases h with
  | any => exact .any
  | v => exact .v
  | nil => exact .nil
  | list cf hl hc hn hm ho hr ht =>
    refine .list cf hl hc hn hm ho hr (fun k hk => ?_)
    obtain ⟨t, h1, h2⟩ := Option.bind_eq_some_iff.1 hk
    exact (ht t h1).imp id fun ⟨sp, q1, q2⟩ => ⟨sp, R.tok _ _ _ h2 q1, q2⟩
  | agg => exact .any
  | tup => exact .any
  | @ptr _ _ b off x hb =>
    cases hf : f b with
    | none => simp only [Go.Proofs.YtdmedeaknnldcaaGreatDoor.mp0, hf]; exact .any
    | some b' => simp only [Go.Proofs.YtdmedeaknnldcaaGreatDoor.mp0, hf]; exact .ptr (R.box _ _ _ hf hb)
  | ref cf hm ho hr => exact .ref cf hm ho hr
  | ub => exact .ub
  | @fn _ _ fn fs cs as bs hl hr hl2 hr2 =>
    cases as with
    | cons => exact .any
    | nil =>
      cases bs with
      | cons => exact .any
      | nil => exact .fn hl (fun i h h' => by cases h') hl2 (fun i h h' => by cases h')
  | @vs _ _ b x off len cap n hb hl hc =>
    cases hf : f b with
    | none => simp only [Go.Proofs.YtdmedeaknnldcaaGreatDoor.mp0, hf]; exact .any
    | some b' => simp only [Go.Proofs.YtdmedeaknnldcaaGreatDoor.mp0, hf]; exact .vs (R.box _ _ _ hf hb) hl (hc.imp fun sp q => ⟨R.cap _ _ _ hf q.1, q.2⟩)
  | @vsn _ _ b off n =>
    cases hf : f b with
    | none => simp only [Go.Proofs.YtdmedeaknnldcaaGreatDoor.mp0, hf]; exact .any
    | some b' => simp only [Go.Proofs.YtdmedeaknnldcaaGreatDoor.mp0, hf]; exact .vsn
  | @vse _ _ b x o off n =>
    cases hf : f b with
    | none => simp only [Go.Proofs.YtdmedeaknnldcaaGreatDoor.mp0, hf]; exact .any
    | some b' => simp only [Go.Proofs.YtdmedeaknnldcaaGreatDoor.mp0, hf]; exact .vse
theorem Rd.mp1 {M : Mem} {f g : Nat → Option Nat} {ρ : Rho} {σ : Sig} {ρ' : Rho} {σ' : Sig} (R : Ren f g ρ σ ρ' σ') {c : Value} {a : AV} (h : Rd M ρ σ c a) : Rd M ρ' σ' c (mp1 f g a) := by
  have d := h.mp0 R
  cases h with
  | agg hl ho hr => exact .agg (by simpa using hl) ho fun i h h' => by simpa using (hr i h (by simpa using h')).mp0 R
  | fn hl hr hl2 hr2 => exact .fn (by simpa using hl) (fun i h h' => by simpa using (hr i h (by simpa using h')).mp0 R) (by simpa using hl2) (fun i h h' => by simpa using (hr2 i h (by simpa using h')).mp0 R)
  | _ => exact d
theorem Rd.mp2 {M : Mem} {f g : Nat → Option Nat} {ρ : Rho} {σ : Sig} {ρ' : Rho} {σ' : Sig} (R : Ren f g ρ σ ρ' σ') {c : Value} {a : AV} (h : Rd M ρ σ c a) : Rd M ρ' σ' c (mp2 f g a) := by
  have d := h.mp1 R
  cases h with
  | tup hl hr => exact .tup (by simpa using hl) fun i h h' => by simpa using (hr i h (by simpa using h')).mp1 R
  | _ => exact d
theorem Rd.dat0 {M : Mem} {ρ : Rho} {σ : Sig} {c : Value} {a : AV} (h : Rd M ρ σ c a) : Rd M rho0 sig0 c (dat0 a) := h.mp0 (.no _ _ _ _)
theorem Rd.dat1 {M : Mem} {ρ : Rho} {σ : Sig} {c : Value} {a : AV} (h : Rd M ρ σ c a) : Rd M rho0 sig0 c (dat1 a) := by
  have d := h.dat0
  cases h with
  | agg hl ho hr => exact .agg (by simpa using hl) ho fun i h h' => by simpa using (hr i h (by simpa using h')).dat0
  | _ => exact d
theorem Rd.dat2 {M : Mem} {ρ : Rho} {σ : Sig} {c : Value} {a : AV} (h : Rd M ρ σ c a) : Rd M rho0 sig0 c (dat2 a) := by
  have d := h.dat1
  cases h with
  | tup hl hr => exact .tup (by simpa using hl) fun i h h' => by simpa using (hr i h (by simpa using h')).dat1
  | _ => exact d

/-! ### The state of a call -/
structure AS where
  env : List AV
  box : List (Nat × Option (List AV))
  tok : List (Nat × Bool)
  nin : Nat
inductive Wr where
  | env (t : Nat) (v : AV)
  | box (b : Nat) (cs : Option (List AV))
  | tok (t : Nat) (x : Bool)
def AS.ap (s : AS) : Wr → AS
  | .env t v => { s with env := s.env.set t v }
  | .box b cs => { s with box := (b, cs) :: s.box }
  | .tok t x => { s with tok := (t, x) :: s.tok }
def AS.aps (s : AS) (l : List Wr) : AS := l.foldl AS.ap s
def AS.bx (s : AS) (b : Nat) : Option (List AV) := match s.box.lookup b with
  | some x => x
  | none => none
def AS.tk (s : AS) (t : Nat) : Option Bool := s.tok.lookup t
def AS.at (s : AS) (t : Nat) : AV := (s.env[t]?).getD .any
def nrm : Value → AV
  | .agg cs => if cs.toList.all (·.oneCell') then .agg (cs.toList.map .v) else .v (.agg cs)
  | x => .v x
def AS.ev (s : AS) : Operand → AV
  | .tmp t => s.at t
  | .const v => nrm v
  | .global g => (match glb g with | some cs => .ref (cs.map .v) | none => .any)
  | .func f => .fn (.func f) [] []
/-- The world at the call's beginning, the memory that was known, the blocks that are open to the call, those of which it has a token. -/
structure Base where
  w0 : World
  M0 : Mem
  opn : List (Option Nat)
  tgs : Nat → Prop
  cap0 : Nat → Option Spare
/-- A row of the heap, none of whose cells is frozen. -/
def At (w : World) (g : Nat) (ccs : Array Value) (t : TypeId) : Prop := ∃ z : Nat × Nat, w.heap[g]? = some (.cells ccs t z) ∧ (ccs.size ≤ z.1 ∨ z = (0, 0))
/-- A row of the heap that holds at least these. -/
def Row (w : World) (g n : Nat) : Prop := ∃ (ccs : Array Value) (t : TypeId), At w g ccs t ∧ n ≤ ccs.size
/-- A row's first cells read so. -/
def Hold (M : Mem) (ρ : Rho) (σ : Sig) (w : World) (g : Nat) (cs : List AV) : Prop := ∃ (ccs : Array Value) (t : TypeId), At w g ccs t ∧ cs.length ≤ ccs.size ∧ (∀ i (h : i < ccs.size), i < cs.length → (ccs[i]).oneCell' = true) ∧ ∀ i (h : i < ccs.size) (h' : i < cs.length), Rd M ρ σ ccs[i] cs[i]
/-- The tables lie in the memory that is known, and whole. -/
def GlOk (M : Mem) (w : World) (opn : List (Option Nat)) (tgs : Nat → Prop) : Prop := ∀ g cs, glb g = some cs → (∀ j, (cs.getD j (.bool true)).oneCell' = true ∧ (j < cs.length → M g j = some (cs.getD j (.bool true)))) ∧ (∃ (t : TypeId) (z : Nat × Nat), w.heap[g]? = some (.cells cs.toArray t z)) ∧ some g ∉ opn ∧ ¬ tgs g
structure SimW (B : Base) (M : Mem) (ρ : Rho) (σ : Sig) (s : AS) (a : Act) (w : World) : Prop where
  len : a.tmps.size = s.env.length
  env : ∀ t, Rd M ρ σ (a.tmps.getD t undef) (s.at t)
  nin : s.nin = B.opn.length
  own : ∀ k, k < s.nin → s.bx k ≠ none → ρ k = (B.opn[k]?).getD none
  fresh : ∀ b g, s.nin ≤ b → ρ b = some g → B.w0.heap.size ≤ g
  defers : a.defers = []
  mem : ∀ g o c, M g o = some c → w.cell? ⟨g, o, none⟩ = some c
  memB : ∀ g o, g < B.w0.heap.size → ¬ B.tgs g → M g o = B.M0 g o
  memS : ∀ g o c, B.M0 g o = some c → M g o = some c
  gl : GlOk B.M0 B.w0 B.opn B.tgs
  os : w.os = B.w0.os
  tape : w.tape = B.w0.tape
  output : w.output = B.w0.output
  size : B.w0.heap.size ≤ w.heap.size
  block : ∀ k, k < B.w0.heap.size → some k ∉ B.opn → ¬ B.tgs k → w.heap[k]? = B.w0.heap[k]?
  box : ∀ b cs, s.bx b = some cs → (cs = [] ∧ ρ b = none) ∨ ∃ g, ρ b = some g ∧ Hold M ρ σ w g cs ∧ (∀ o, M g o = none) ∧ (B.w0.heap.size ≤ g ∨ some g ∈ B.opn)
  rws : ∀ g n, Row B.w0 g n → Row w g n
  rlt : ∀ b g, ρ b = some g → g < w.heap.size
  rho : ∀ b g, ρ b = some g → s.bx b ≠ none ∨ s.tk (vk b) ≠ none
  inj : ∀ b b' g, s.bx b ≠ none → s.bx b' ≠ none → ρ b = some g → ρ b' = some g → b = b'
  tok : ∀ t sp, s.tk t = some true → σ t = some sp → (B.w0.heap.size ≤ sp.g ∨ B.tgs sp.g) ∧ sp.lo ≤ sp.hi ∧ (∀ o, sp.lo ≤ o → o < sp.hi → M sp.g o = none) ∧ (∀ b, s.bx b ≠ none → ρ b ≠ some sp.g)
  cap : ∀ t sp, σ t = some sp → Row w sp.g sp.hi
  sig : ∀ t sp, σ t = some sp → s.tk t ≠ none
  capB : ∀ k, k < s.nin → ∀ sp, σ (vk k) = some sp → B.cap0 k = some sp
  nink : ∀ k, k < s.nin → s.tk (vk k) ≠ none
  tinj : ∀ t t' sp sp', s.tk t = some true → s.tk t' = some true → σ t = some sp → σ t' = some sp' → sp.g = sp'.g → t = t'
def Sim (B : Base) (s : AS) (a : Act) (w : World) : Prop := ∃ M ρ σ, SimW B M ρ σ s a w
theorem Rd.nrm {M : Mem} {ρ : Rho} {σ : Sig} (c : Value) : Rd M ρ σ c (nrm c) := by
  unfold Go.Proofs.YtdmedeaknnldcaaGreatDoor.nrm
  split
  · rename_i cs
    split
    · rename_i h
      refine .agg (by simp) (fun i hi => ?_) (fun i hi hi' => ?_)
      · exact List.all_eq_true.1 h _ (by simp)
      · simp only [List.getElem_map, Array.getElem_toList]; exact .v
    · exact .v
  · exact .v
theorem SimW.ev {B : Base} {M : Mem} {ρ : Rho} {σ : Sig} {s : AS} {a : Act} {w : World} (h : SimW B M ρ σ s a w) (x : Operand) : Rd M ρ σ (a.eval x) (s.ev x) := by
  cases x with
  | tmp t => exact h.env t
  | const c => exact Rd.nrm c
  | global g =>
    show Rd M ρ σ (.pointer (some ⟨g, 0, none⟩)) (match glb g with | some cs => .ref (cs.map .v) | none => .any)
    cases hg : glb g with
    | none => exact .any
    | some cs =>
      refine .ref (fun j => cs.getD j (.bool true)) (fun j hj => ?_) (fun j => ((h.gl g cs hg).1 j).1) (fun j hj => ?_)
      · rw [Nat.zero_add]
        exact h.memS _ _ _ (((h.gl g cs hg).1 j).2 (by simpa using hj))
      · have hj' : j < cs.length := by simpa using hj
        simp only [List.getElem_map, List.getD_eq_getElem?_getD, List.getElem?_eq_getElem hj', Option.getD_some]
        exact .v
  | func f => exact .fn rfl (fun i h h' => by cases h') rfl (fun i h h' => by cases h')
theorem getD_set_at {α : Type} (l : List α) (i j : Nat) (v d : α) : ((l.set i v)[j]?).getD d = if j = i ∧ i < l.length then v else (l[j]?).getD d := by
  rw [List.getElem?_set]
  by_cases h : i = j
  · subst h
    by_cases h2 : i < l.length
    · simp [h2]
    · simp [h2]
  · have h3 : ¬ j = i := fun e => h e.symm
    simp [h, h3]
theorem AS.at_set (s : AS) (t t' : Nat) (v : AV) : (s.ap (.env t v)).at t' = if t' = t ∧ t < s.env.length then v else s.at t' := by
  unfold AS.ap AS.at
  exact getD_set_at _ _ _ _ _
/-- A slot is written. -/
theorem SimW.put {B : Base} {M : Mem} {ρ : Rho} {σ : Sig} {s : AS} {a : Act} {w : World} (h : SimW B M ρ σ s a w) {c : Value} {v : AV} (hr : Rd M ρ σ c v) (d : Nat) : SimW B M ρ σ (s.ap (.env d v)) (a.put (some d) c) w :=
  { h with
    len := by simp [AS.ap, Act.put, h.len]
    env := fun t => by
      rw [AS.at_set]
      have e : (a.put (some d) c).tmps.getD t undef = if t = d ∧ d < a.tmps.size then c else a.tmps.getD t undef := by
        simp only [Act.put, Array.getD_eq_getD_getElem?, Array.getElem?_setIfInBounds]
        by_cases h1 : d = t
        · subst h1
          by_cases h2 : d < a.tmps.size
          · simp [h2]
          · simp [h2]
        · have h3 : ¬ t = d := fun e => h1 e.symm
          simp [h1, h3]
      rw [e, h.len]
      by_cases h1 : t = d ∧ d < s.env.length
      · rw [if_pos h1, if_pos h1]; exact hr
      · rw [if_neg h1, if_neg h1]; exact h.env t }
end Go.Proofs.YtdmedeaknnldcaaGreatDoor
