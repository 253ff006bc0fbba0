/- Calls. -/
import Derived.Test.YtdmedeaknnldcaaGreatDoorSymZ
namespace Go.Proofs.YtdmedeaknnldcaaGreatDoor
open Go.RowKit
set_option linter.unusedVariables false
set_option linter.unusedSimpArgs false
set_option linter.unnecessarySimpa false
/-- What a call hands back: its result, what its variables hold behind it, what a new variable holds to which the result points; and the tokens that it has taken. -/
structure Ret where
  val : AV
  outs : List (List AV)
  new : Option (List AV)
  use : List Nat
  toks : List Nat
  sl : List Nat
/-- Without memory: how a function answers. -/
abbrev Gam := FuncId → Bool → List AV → List (List AV) → Option Ret
/-- A variable of its own block. -/
def HasBox (M : Mem) (ρ : Rho) (σ : Sig) (w : World) (go : Option Nat) (cs : List AV) : Prop := (cs = [] ∧ go = none) ∨ ∃ g, go = some g ∧ Hold M ρ σ w g cs ∧ ∀ o, M g o = none
structure Frm (w w' : World) (opn : List (Option Nat)) (T : Nat → Prop) : Prop where
  os : w'.os = w.os
  tape : w'.tape = w.tape
  output : w'.output = w.output
  size : w.heap.size ≤ w'.heap.size
  block : ∀ k, k < w.heap.size → some k ∉ opn → ¬ T k → w'.heap[k]? = w.heap[k]?
def gsR (gs : List (Option Nat)) : Rho := fun k => (gs[k]?).getD none
/-- The blocks of these tokens. -/
def InT (σ : Sig) (live : List Nat) (g : Nat) : Prop := ∃ t ∈ live, ∃ sp, σ t = some sp ∧ sp.g = g
/-- Each block once. -/
def Inj (gs : List (Option Nat)) : Prop := ∀ (i j g : Nat), gs[i]? = some (some g) → gs[j]? = some (some g) → i = j
/-- What is known of the tokens that are handed over. -/
structure Toks (M : Mem) (w : World) (σ : Sig) (live : List Nat) (gs : List (Option Nat)) : Prop where
  tok : ∀ t ∈ live, ∀ sp, σ t = some sp → sp.lo ≤ sp.hi ∧ (∀ o, sp.lo ≤ o → o < sp.hi → M sp.g o = none) ∧ some sp.g ∉ gs
  cap : ∀ t sp, σ t = some sp → Row w sp.g sp.hi
  inj : ∀ t ∈ live, ∀ t' ∈ live, ∀ sp sp', σ t = some sp → σ t' = some sp' → sp.g = sp'.g → t = t'
/-- The tokens of a value. -/
def tk0 : AV → List Nat
  | .list _ _ (some t) => [t]
  | _ => []
def tk1 : AV → List Nat
  | .agg cs => cs.flatMap tk0
  | x => tk0 x
def tk2 : AV → List Nat
  | .tup cs => cs.flatMap tk1
  | x => tk1 x
/-- What a call leaves. -/
structure Left (M : Mem) (w : World) (gs : List (Option Nat)) (σ : Sig) (r : Ret) (c : Value) (M' : Mem) (w' : World) (σ' : Sig) (gn : List (Option Nat)) : Prop where
  sub : ∀ g o v, M g o = some v → M' g o = some v
  mem : ∀ g o v, M' g o = some v → w'.cell? ⟨g, o, none⟩ = some v
  same : ∀ g o, g < w.heap.size → ¬ InT σ r.use g → M' g o = M g o
  frm : Frm w w' gs (InT σ r.use)
  olen : r.outs.length = gs.length
  outs : ∀ k (h : k < gs.length) (h' : k < r.outs.length), HasBox M' (gsR (gs ++ gn)) σ' w' gs[k] r.outs[k]
  data : ∀ k ∈ r.sl, ∀ (h : k < gs.length) (h' : k < r.outs.length), HasBox M' rho0 sig0 w' gs[k] r.outs[k]
  newn : r.new = none → gn = []
  new : ∀ cs, r.new = some cs → ∃ go, gn = [go] ∧ HasBox M' (gsR (gs ++ gn)) σ' w' go cs ∧ ∀ g, go = some g → w.heap.size ≤ g
  val : Rd M' (gsR (gs ++ gn)) σ' c r.val
  tok : ∀ t ∈ r.toks, ∀ sp, σ' t = some sp → (w.heap.size ≤ sp.g ∨ InT σ r.use sp.g) ∧ sp.lo ≤ sp.hi ∧ (∀ o, sp.lo ≤ o → o < sp.hi → M' sp.g o = none) ∧ some sp.g ∉ gs ++ gn
  cap : ∀ t sp, σ' t = some sp → Row w' sp.g sp.hi
  inj : ∀ t ∈ r.toks, ∀ t' ∈ r.toks, ∀ sp sp', σ' t = some sp → σ' t' = some sp' → sp.g = sp'.g → t = t'
  rows : ∀ g n, Row w g n → Row w' g n
  capin : ∀ k, k < gs.length → ∀ sp, σ' (vk k) = some sp → σ (vk k) = some sp
def CallOk (P : Program) (f : FuncId) (args : List AV) (bs : List (List AV)) (r : Ret) : Prop :=
  (∃ fn, P.funcs[f]? = some fn ∧ (fn.name == "runtime.NumGoroutine") = false ∧ fn.body.isNone = false) ∧
  ∀ (M : Mem) (w : World) (cargs : Array Value) (gs : List (Option Nat)) (σ : Sig), GlOk M w gs (InT σ r.use) → (∀ g o v, M g o = some v → w.cell? ⟨g, o, none⟩ = some v) → (∀ (k g : Nat), gs[k]? = some (some g) → g < w.heap.size) → Inj gs → gs.length = bs.length → cargs.size = args.length →
    (∀ i (h : i < cargs.size) (h' : i < args.length), Rd M (gsR gs) σ cargs[i] args[i]) → (∀ k (h : k < gs.length) (h' : k < bs.length), HasBox M (gsR gs) σ w gs[k] bs[k]) → (∀ k ∈ r.sl, ∀ (h : k < gs.length) (h' : k < bs.length), HasBox M rho0 sig0 w gs[k] bs[k]) → Toks M w σ r.use gs → Calls P f cargs w fun e w' => ∃ c M' σ' gn, e = .returned c ∧ Left M w gs σ r c M' w' σ' gn
def GOk (P : Program) (Γ : Gam) : Prop := ∀ f m args bs r, Γ f m args bs = some r → CallOk P f args bs r
def idx : List Nat → Nat → Option Nat
  | [], _ => none
  | x :: l, b => if x = b then some 0 else (idx l b).map (· + 1)
def ptr0 : AV → List Nat
  | .ptr b _ => [b]
  | .vs b _ _ _ => [b]
  | _ => []
def ptr1 : AV → List Nat
  | .fn _ as bs => as.flatMap ptr0 ++ bs.flatMap ptr0
  | x => ptr0 x
def adds (l : List Nat) (b : Nat) : List Nat := if l.contains b then l else l ++ [b]
def ptrs (vs : List AV) : List Nat := (vs.flatMap ptr1).foldl adds []
/-- Those that these variables point to. -/
def inner (s : AS) : List Nat → List Nat
  | [] => []
  | b :: l => (match s.tk (vm b) with | some _ => [] | none => (match s.bx b with | some cs => cs.flatMap ptr0 | none => [])) ++ inner s l
/-- The variables that a call may see. -/
def boxL (s : AS) (vs : List AV) : List Nat := (inner s (ptrs vs)).foldl adds (ptrs vs)
/-- A list whose token is alive, under the token's new name. -/
def tkV (s : AS) (t' : Nat) (f : Nat → Option Nat) : AV → AV
  | .list n xs (some t) => (match s.tk t with | some true => .list n xs (some t') | _ => .list n xs none)
  | v => mp2 f no1 v
def argsV (s : AS) (f : Nat → Option Nat) : Nat → List AV → List AV
  | _, [] => []
  | i, v :: r => tkV s (tI i) f v :: argsV s f (i + 1) r
def cellsV (s : AS) (f : Nat → Option Nat) (k : Nat) : Nat → List AV → List AV
  | _, [] => []
  | j, v :: r => tkV s (tC k j 0) f v :: cellsV s f k (j + 1) r
def boxesV (s : AS) (f : Nat → Option Nat) : Nat → List Nat → Option (List (List AV))
  | _, [] => some []
  | k, b :: l => match s.bx b, boxesV s f (k + 1) l with
    | some cs, some r => some ((match s.tk (vm b) with | some _ => cs.map dat0 | none => cellsV s f k 0 cs) :: r)
    | _, _ => none
/-- Which token has which new name. -/
def tkT (s : AS) (t' : Nat) : AV → List (Nat × Nat)
  | .list _ _ (some t) => (match s.tk t with | some true => [(t', t)] | _ => [])
  | _ => []
def argsT (s : AS) : Nat → List AV → List (Nat × Nat)
  | _, [] => []
  | i, v :: r => tkT s (tI i) v ++ argsT s (i + 1) r
def cellsT (s : AS) (k : Nat) : Nat → List AV → List (Nat × Nat)
  | _, [] => []
  | j, v :: r => tkT s (tC k j 0) v ++ cellsT s k (j + 1) r
def boxesT (s : AS) : Nat → List Nat → List (Nat × Nat)
  | _, [] => []
  | k, b :: l => (match s.tk (vm b) with | some _ => [] | none => (match s.bx b with | some cs => cellsT s k 0 cs | none => [])) ++ boxesT s (k + 1) l
def caps : Nat → List Nat → List (Nat × Nat)
  | _, [] => []
  | k, b :: l => (vk k, vk b) :: caps (k + 1) l
/-- The tokens that are taken, by their caller's names. -/
def usedT (tab : List (Nat × Nat)) : List Nat → List Nat
  | [] => []
  | t :: r => match tab.lookup t with
    | some x => x :: usedT tab r
    | none => usedT tab r
/-- Names for new tokens: those of the operation's slot; where it has none, those of the first variable. -/
def freeT (s : AS) (b : Nat) : Nat → Nat → Nat
  | 0, m => m
  | f + 1, m => match s.tk (tC b 4095 m) with
    | none => m
    | some _ => freeT s b f (m + 1)
def seqN (d i : Nat) : Nat → List Nat
  | 0 => []
  | n + 1 => tD d i :: seqN d (i + 1) n
def seqC (b m : Nat) : Nat → List Nat
  | 0 => []
  | n + 1 => tC b 4095 m :: seqC b (m + 1) n
def newN (s : AS) (l : List Nat) (dst : Option Nat) (n : Nat) : List Nat :=
  match dst, l with
  | some d, _ => seqN d 0 n
  | none, b :: _ => seqC b (freeT s b 30 0) n
  | none, [] => []
def distinct : List Nat → Bool
  | [] => true
  | x :: l => !l.contains x && distinct l
/-- The variables' names for the caller. -/
def fB (l : List Nat) (dst : Option Nat) (r : Ret) (k : Nat) : Option Nat := match l[k]? with
  | some b => some b
  | none => (match r.new, dst with | some _, some d => if k = l.length then some d else none | _, _ => none)
def boxWr (f : Nat → List AV → List AV) : List Nat → List (List AV) → List Wr
  | b :: l, cs :: os => .box b (some (f b cs)) :: boxWr f l os
  | _, _ => []
/-- What a variable holds behind a call, for the caller. -/
def backC (s : AS) (l sl : List Nat) (f g : Nat → Option Nat) (b : Nat) (cs : List AV) : List AV :=
  match (match idx l b with | some k => sl.contains k | none => false) with
  | true => cs
  | false => (match s.tk (vm b) with
    | some _ => cs.map dat0
    | none => cs.map (mp0 f g))
def isVs0 : AV → Bool
  | .vs .. => true
  | _ => false
def hasVs : AV → Bool
  | .tup cs => cs.any isVs0
  | v => isVs0 v
def newC (v : AV) (f g : Nat → Option Nat) (cs : List AV) : List AV := bif hasVs v then cs.map dat0 else cs.map (mp0 f g)
def slOk (s : AS) (l sl : List Nat) : Bool := sl.all fun k => match l[k]? with | some b => (s.tk (vm b)).isSome | none => false
/-- What a call's answer writes. -/
def retWr2 (s : AS) (l : List Nat) (dst : Option Nat) (tab : List (Nat × Nat)) (r : Ret) (us ns : List Nat) : Option (List Wr) :=
  if (r.use.all (fun t => (tab.lookup t).isSome || ((caps 0 l).lookup t).isNone) && (slOk s l r.sl && (distinct ((tab ++ caps 0 l).map (·.1)) && (distinct us && (distinct ns && (distinct r.toks && (decide (ns.length ≤ 30) && (ns.all (fun t => (s.tk t).isNone) && (ns.length == r.toks.length && r.outs.length == l.length))))))))) = true then
    (match r.new, dst with
    | some cs, some d =>
      (match s.bx d, s.tk (vk d) with
      | none, none =>
        if s.nin ≤ d ∧ ns.contains (vk d) = false then
          some (us.map (fun t => .tok t false) ++ boxWr (fun _ _ => []) l r.outs ++ ns.map (fun t => .tok t true) ++ [.box d (some []), .tok (vk d) false] ++ (bif hasVs r.val then [.tok (vm d) false] else []) ++ boxWr (backC s l r.sl (fB l dst r) (fun t => (r.toks.zip ns).lookup t)) l r.outs ++ [.box d (some (newC r.val (fB l dst r) (fun t => (r.toks.zip ns).lookup t) cs)), .env d (mp2 (fB l dst r) (fun t => (r.toks.zip ns).lookup t) r.val)])
        else none
      | _, _ => none)
    | some _, none => none
    | none, _ => some (us.map (fun t => .tok t false) ++ boxWr (fun _ _ => []) l r.outs ++ ns.map (fun t => .tok t true) ++ boxWr (backC s l r.sl (fB l dst r) (fun t => (r.toks.zip ns).lookup t)) l r.outs ++ (match dst with | some d => [.env d (mp2 (fB l dst r) (fun t => (r.toks.zip ns).lookup t) r.val)] | none => [])))
  else none
def retWr (s : AS) (l : List Nat) (dst : Option Nat) (tab : List (Nat × Nat)) (r : Ret) : Option (List Wr) :=
  retWr2 s l dst tab r (usedT tab r.use) (newN s l dst r.toks.length)
def callOp (Γ : Gam) (s : AS) (dst : Option Nat) (m : Bool) (fv : Operand) (args : List Operand) : Option (List Wr) :=
  match s.ev fv with
  | .fn (.func f) first captured =>
    (match boxesV s (idx (boxL s (first ++ args.map s.ev ++ captured))) 0 (boxL s (first ++ args.map s.ev ++ captured)) with
    | some bs =>
      (match Γ f m (argsV s (idx (boxL s (first ++ args.map s.ev ++ captured))) 0 (first ++ args.map s.ev ++ captured)) bs with
      | some r => retWr s (boxL s (first ++ args.map s.ev ++ captured)) dst (argsT s 0 (first ++ args.map s.ev ++ captured) ++ boxesT s 0 (boxL s (first ++ args.map s.ev ++ captured))) r
      | none => none)
    | none => none)
  | _ => none
theorem idx_get : ∀ (l : List Nat) (b k : Nat), idx l b = some k → l[k]? = some b
  | [], b, k, h => by cases h
  | x :: l, b, k, h => by
    unfold idx at h
    split at h
    · rename_i e; cases h; simp [e]
    · obtain ⟨k', h1, h2⟩ := Option.map_eq_some_iff.1 h
      subst h2
      simpa using idx_get l b k' h1
theorem adds_nodup {l : List Nat} {b : Nat} (h : l.Nodup) : (adds l b).Nodup := by
  unfold adds
  split
  · exact h
  · rename_i hc
    rw [List.nodup_append]
    refine ⟨h, by simp, fun x hx y hy => ?_⟩
    simp at hy
    subst hy
    intro e
    subst e
    exact hc (by simpa using hx)
theorem foldl_adds_nodup : ∀ (m l : List Nat), l.Nodup → (m.foldl adds l).Nodup
  | [], l, h => h
  | b :: m, l, h => foldl_adds_nodup m _ (adds_nodup h)
theorem boxL_nodup (s : AS) (vs : List AV) : (boxL s vs).Nodup := foldl_adds_nodup _ _ (foldl_adds_nodup _ _ List.nodup_nil)
theorem distinct_nodup : ∀ (l : List Nat), distinct l = true → l.Nodup
  | [], _ => List.nodup_nil
  | x :: l, h => by
    simp only [distinct, Bool.and_eq_true, Bool.not_eq_true'] at h
    refine List.nodup_cons.2 ⟨fun hm => ?_, distinct_nodup l h.2⟩
    have := h.1
    rw [← Bool.not_eq_true, List.contains_iff_mem] at this
    exact this hm
theorem boxesV_spec (s : AS) (f : Nat → Option Nat) : ∀ (l : List Nat) (k0 : Nat) (bs : List (List AV)), boxesV s f k0 l = some bs → bs.length = l.length ∧ ∀ k (h : k < l.length) (h' : k < bs.length), ∃ cs, s.bx l[k] = some cs ∧ bs[k] = (match s.tk (vm l[k]) with | some _ => cs.map dat0 | none => cellsV s f (k0 + k) 0 cs)
  | [], k0, bs, h => by cases h; exact ⟨rfl, fun k h => by cases h⟩
  | b :: l, k0, bs, h => by
    unfold boxesV at h
    split at h
    · rename_i cs r hb hr
      cases h
      obtain ⟨h1, h2⟩ := boxesV_spec s f l (k0 + 1) r hr
      refine ⟨by simp [h1], fun k hk hk' => ?_⟩
      cases k with
      | zero => exact ⟨cs, by simpa using hb, rfl⟩
      | succ k =>
        obtain ⟨cs', q1, q2⟩ := h2 k (by simpa using hk) (by simpa using hk')
        exact ⟨cs', by simpa using q1, by simp only [List.getElem_cons_succ]; rw [q2, show k0 + 1 + k = k0 + (k + 1) by omega]⟩
    · cases h
theorem cellsV_get (s : AS) (f : Nat → Option Nat) (k : Nat) : ∀ (cs : List AV) (j0 : Nat), (cellsV s f k j0 cs).length = cs.length ∧ ∀ j (h : j < (cellsV s f k j0 cs).length) (h' : j < cs.length), (cellsV s f k j0 cs)[j] = tkV s (tC k (j0 + j) 0) f cs[j]
  | [], j0 => ⟨rfl, fun j h => by cases h⟩
  | v :: r, j0 => by
    obtain ⟨h1, h2⟩ := cellsV_get s f k r (j0 + 1)
    refine ⟨by simp [cellsV, h1], fun j h h' => ?_⟩
    cases j with
    | zero => rfl
    | succ j =>
      have := h2 j (by simpa [cellsV] using h) (by simpa using h')
      simp only [cellsV, List.getElem_cons_succ, this]
      congr 2; omega
theorem argsV_get (s : AS) (f : Nat → Option Nat) : ∀ (vs : List AV) (i0 : Nat), (argsV s f i0 vs).length = vs.length ∧ ∀ i (h : i < (argsV s f i0 vs).length) (h' : i < vs.length), (argsV s f i0 vs)[i] = tkV s (tI (i0 + i)) f vs[i]
  | [], i0 => ⟨rfl, fun j h => by cases h⟩
  | v :: r, i0 => by
    obtain ⟨h1, h2⟩ := argsV_get s f r (i0 + 1)
    refine ⟨by simp [argsV, h1], fun j h h' => ?_⟩
    cases j with
    | zero => rfl
    | succ j =>
      have := h2 j (by simpa [argsV] using h) (by simpa using h')
      simp only [argsV, List.getElem_cons_succ, this]
      congr 2; omega
theorem boxWr_facts (f : Nat → List AV → List AV) : ∀ (l : List Nat) (os : List (List AV)) (s : AS), l.Nodup → l.length = os.length → (s.aps (boxWr f l os)).nin = s.nin ∧ (s.aps (boxWr f l os)).env = s.env ∧ (s.aps (boxWr f l os)).tok = s.tok ∧
    (∀ b, b ∉ l → (s.aps (boxWr f l os)).bx b = s.bx b) ∧ ∀ k (h : k < l.length) (h' : k < os.length), (s.aps (boxWr f l os)).bx l[k] = some (f l[k] os[k])
  | [], os, s, _, _ => ⟨rfl, rfl, rfl, fun _ _ => rfl, fun k h => by cases h⟩
  | b :: l, [], s, _, hl => by simp at hl
  | b :: l, cs :: os, s, hn, hl => by
    obtain ⟨n1, n2⟩ := List.nodup_cons.1 hn
    obtain ⟨h0, h1, h2, h4, h5⟩ := boxWr_facts f l os (s.ap (.box b (some (f b cs)))) n2 (by simpa using hl)
    have e : s.aps (boxWr f (b :: l) (cs :: os)) = (s.ap (.box b (some (f b cs)))).aps (boxWr f l os) := rfl
    rw [e]
    refine ⟨h0, h1, h2, fun x hx => ?_, fun k hk hk' => ?_⟩
    · rw [h4 x (fun h => hx (List.mem_cons_of_mem _ h)), AS.bx_set, if_neg (fun e => hx (by rw [e]; exact List.mem_cons_self))]
    · cases k with
      | zero => rw [List.getElem_cons_zero, List.getElem_cons_zero, h4 b n1, AS.bx_set, if_pos rfl]
      | succ k => simpa using h5 k (by simpa using hk) (by simpa using hk')
theorem aps_append (s : AS) (W W' : List Wr) : s.aps (W ++ W') = (s.aps W).aps W' := by simp [AS.aps, List.foldl_append]
section
variable {P : Program} {B : Base} {M : Mem} {ρ ρ' : Rho} {σ σ' : Sig} {s : AS} {a : Act} {w : World}
theorem Rd.tkV {f : Nat → Option Nat} {t' : Nat} (R : Ren f no1 ρ σ ρ' σ') {c : Value} {v : AV} (h : Rd M ρ σ c v) (ht : ∀ n xs t sp, v = .list n xs (some t) → s.tk t = some true → σ t = some sp → σ' t' = some sp) : Rd M ρ' σ' c (tkV s t' f v) := by
  unfold Go.Proofs.YtdmedeaknnldcaaGreatDoor.tkV
  split
  · rename_i n xs t
    split
    · rename_i hk
      cases h with
      | nil => exact .nil
      | list cf h1 h2 h3 h4 h5 h6 h7 =>
        refine .list cf h1 h2 h3 h4 h5 h6 (fun k e => ?_)
        cases e
        exact (h7 t rfl).imp id fun ⟨sp, q1, q2⟩ => ⟨sp, ht _ _ _ _ rfl hk q1, q2⟩
    · have := h.mp0 (f := no1) (g := no1) (Ren.no ρ σ ρ' σ')
      exact this
  · exact h.mp2 R
/-- Tokens that are given up. -/
theorem SimW.deads : ∀ (us : List Nat) (s : AS), SimW B M ρ σ s a w → SimW B M ρ σ (s.aps (us.map fun t => .tok t false)) a w
  | [], s, h => h
  | t :: us, s, h => SimW.deads us _ (h.tokdead t)
theorem deads_tk : ∀ (us : List Nat) (s : AS) (t : Nat), (s.aps (us.map fun t => Wr.tok t false)).tk t = if t ∈ us then some false else s.tk t
  | [], s, t => by simp [AS.aps]
  | u :: us, s, t => by
    have e : s.aps ((u :: us).map fun t => Wr.tok t false) = (s.ap (.tok u false)).aps (us.map fun t => Wr.tok t false) := rfl
    rw [e, deads_tk us, AS.tk_set]
    by_cases h1 : t ∈ us
    · simp [h1]
    · by_cases h2 : t = u <;> simp [h1, h2]
theorem toks_tk (x : Bool) : ∀ (us : List Nat) (s : AS) (t : Nat), (s.aps (us.map fun t => Wr.tok t x)).tk t = if t ∈ us then some x else s.tk t
  | [], s, t => by simp [AS.aps]
  | u :: us, s, t => by
    have e : s.aps ((u :: us).map fun t => Wr.tok t x) = (s.ap (.tok u x)).aps (us.map fun t => Wr.tok t x) := rfl
    rw [e, toks_tk x us, AS.tk_set]
    by_cases h1 : t ∈ us
    · simp [h1]
    · by_cases h2 : t = u <;> simp [h1, h2]
theorem toks_keep (x : Bool) : ∀ (us : List Nat) (s : AS), (s.aps (us.map fun t => Wr.tok t x)).nin = s.nin ∧ (s.aps (us.map fun t => Wr.tok t x)).env = s.env ∧ (s.aps (us.map fun t => Wr.tok t x)).box = s.box
  | [], s => ⟨rfl, rfl, rfl⟩
  | u :: us, s => toks_keep x us (s.ap (.tok u x))
/-- The world that a call leaves, for its caller: the call's variables are known to be there, no more. -/
theorem SimW.after (h : SimW B M ρ σ s a w) {M' : Mem} {w' : World} {l : List Nat} {T : Nat → Prop} (hl : ∀ b ∈ l, s.bx b ≠ none)
    (sub : ∀ g o v, M g o = some v → M' g o = some v) (mem : ∀ g o v, M' g o = some v → w'.cell? ⟨g, o, none⟩ = some v) (same : ∀ g o, g < w.heap.size → ¬ T g → M' g o = M g o) (frm : Frm w w' (l.map ρ) T)
    (hT1 : ∀ g, T g → g < w.heap.size ∧ (B.w0.heap.size ≤ g ∨ B.tgs g) ∧ (∀ b, s.bx b ≠ none → ρ b ≠ some g) ∧ ∀ t sp, s.tk t = some true → σ t = some sp → sp.g ≠ g) (rows : ∀ g n, Row w g n → Row w' g n)
    (hb : ∀ b ∈ l, ∀ g, ρ b = some g → (∃ (ccs : Array Value) (t : TypeId), At w' g ccs t)) (os : List (List AV)) (hol : l.length = os.length) (hnd : l.Nodup) : SimW B M' ρ σ (s.aps (boxWr (fun _ _ => []) l os)) a w' := by
  obtain ⟨e0, e1, e2, e4, e5⟩ := boxWr_facts (fun _ _ => []) l os s hnd hol
  have eat : ∀ t, (s.aps (boxWr (fun _ _ => []) l os)).at t = s.at t := fun t => by unfold AS.at; rw [e1]
  have etk : ∀ t, (s.aps (boxWr (fun _ _ => []) l os)).tk t = s.tk t := fun t => by unfold AS.tk; rw [e2]
  have up : ∀ c v, Rd M ρ σ c v → Rd M' ρ σ c v := fun c v hr => hr.mono sub _ _ (fun _ _ h => h) (fun _ _ h => h)
  have hbx : ∀ b, b ∈ l → (s.aps (boxWr (fun _ _ => []) l os)).bx b = some [] := fun b hm => by
    obtain ⟨k, hk, rfl⟩ := List.getElem_of_mem hm
    exact e5 k hk (by omega)
  have hbn : ∀ b, (s.aps (boxWr (fun _ _ => []) l os)).bx b ≠ none → s.bx b ≠ none := fun b hq => by
    by_cases hm : b ∈ l
    · exact hl b hm
    · rw [e4 b hm] at hq; exact hq
  have hlt : ∀ b g, ρ b = some g → g < w.heap.size := h.rlt
  have nin' : ∀ k b, s.bx b ≠ none → ρ b = some k → b ∉ l → some k ∉ l.map ρ := fun k b hq hr hm hin => by
    obtain ⟨b', hb1, hb2⟩ := List.mem_map.1 hin
    exact hm (h.inj b b' k hq (hl b' hb1) hr hb2 ▸ hb1)
  refine { nin := by rw [e0]; exact h.nin, own := fun k hk hbk => h.own k (by rw [← e0]; exact hk) (hbn k hbk), fresh := fun b g hn hr => h.fresh b g (by rw [← e0]; exact hn) hr, len := by rw [e1]; exact h.len, env := fun t => by rw [eat]; exact up _ _ (h.env t), defers := h.defers, mem := mem, memB := fun g o hg' h2 => ?_, memS := fun g o c hm => sub _ _ _ (h.memS g o c hm), gl := h.gl, os := frm.os.trans h.os, tape := frm.tape.trans h.tape, output := frm.output.trans h.output, size := Nat.le_trans h.size frm.size, block := fun k h1 h2 h3 => ?_, box := fun b cs hq => ?_, rws := fun g n hr => rows g n (h.rws g n hr), rlt := fun b g hr => Nat.lt_of_lt_of_le (h.rlt b g hr) frm.size, rho := fun b g hr => ?_, inj := fun b b' g h1 h2 h3 h4 => h.inj b b' g (hbn b h1) (hbn b' h2) h3 h4, tok := fun t sp ht hs => ?_, cap := fun t sp hs => rows _ _ (h.cap t sp hs), sig := fun t sp hs => by rw [etk]; exact h.sig t sp hs, capB := fun k hk => h.capB k (by rw [← e0]; exact hk), nink := fun k hk => by rw [etk]; exact h.nink k (by rw [← e0]; exact hk), tinj := fun t t' sp sp' h1 h2 => h.tinj t t' sp sp' (by rw [← etk]; exact h1) (by rw [← etk]; exact h2) }
  · rw [same g o (Nat.lt_of_lt_of_le hg' h.size) (fun ht => by
      rcases (hT1 g ht).2.1 with q | q
      · omega
      · exact h2 q)]
    exact h.memB g o hg' h2
  · rw [frm.block k (Nat.lt_of_lt_of_le h1 h.size) (fun hin => ?_) (fun ht => ?_)]
    · exact h.block k h1 h2 h3
    · obtain ⟨b, hb1, hb2⟩ := List.mem_map.1 hin
      cases hq : s.bx b with
      | none => exact hl b hb1 hq
      | some cs =>
        rcases h.box b cs hq with ⟨-, e⟩ | ⟨g, q1, -, -, q4⟩
        · rw [hb2] at e; cases e
        · rw [hb2] at q1; cases q1
          rcases q4 with q | q
          · omega
          · exact h2 q
    · rcases (hT1 k ht).2.1 with q | q
      · omega
      · exact h3 q
  · by_cases hm : b ∈ l
    · rw [hbx b hm] at hq
      cases hq
      cases hr : ρ b with
      | none => exact .inl ⟨rfl, rfl⟩
      | some g =>
        cases hs : s.bx b with
        | none => exact absurd hs (hl b hm)
        | some cs0 =>
          rcases h.box b cs0 hs with ⟨-, e⟩ | ⟨g', q1, -, q3, q4⟩
          · rw [hr] at e; cases e
          · rw [hr] at q1; cases q1
            obtain ⟨ccs, t, r1⟩ := hb b hm g hr
            refine .inr ⟨g, rfl, ⟨ccs, t, r1, Nat.zero_le _, (fun i _ h => by cases h), (fun i _ h => by cases h)⟩, fun o => ?_, q4⟩
            rw [same g o (hlt b g hr) (fun ht => (hT1 g ht).2.2.1 b (hl b hm) hr)]
            exact q3 o
    · rw [e4 b hm] at hq
      rcases h.box b cs hq with e | ⟨g, q1, q2, q3, q4⟩
      · exact .inl e
      · have nt : ¬ T g := fun ht => (hT1 g ht).2.2.1 b (bx_ne hq) q1
        refine .inr ⟨g, q1, q2.of_heap (frm.block g q2.lt (nin' g b (bx_ne hq) q1 hm) nt) up, fun o => ?_, q4⟩
        rw [same g o q2.lt nt]; exact q3 o
  · rcases h.rho b g hr with q | q
    · refine .inl ?_
      by_cases hm : b ∈ l
      · rw [hbx b hm]; simp
      · rw [e4 b hm]; exact q
    · exact .inr (by rw [etk]; exact q)
  · rw [etk] at ht
    obtain ⟨q1, q2, q3, q4⟩ := h.tok t sp ht hs
    refine ⟨q1, q2, fun o x y => ?_, fun b hq => q4 b (hbn b hq)⟩
    rw [same _ o (h.cap t sp hs).lt (fun hT => (hT1 _ hT).2.2.2 t sp ht hs rfl)]
    exact q3 o x y
/-- New tokens, one after the other. -/
theorem SimW.owns : ∀ (ns : List Nat) (sos : List (Option Spare)) (s : AS) (σ : Sig), SimW B M ρ σ s a w → ns.length = sos.length → ns.Nodup → (∀ t ∈ ns, s.tk t = none) →
    (∀ sp, some sp ∈ sos → (B.w0.heap.size ≤ sp.g ∨ B.tgs sp.g) ∧ sp.lo ≤ sp.hi ∧ (∀ o, sp.lo ≤ o → o < sp.hi → M sp.g o = none) ∧ (∀ b, s.bx b ≠ none → ρ b ≠ some sp.g) ∧ Row w sp.g sp.hi ∧ ∀ t sp', s.tk t = some true → σ t = some sp' → sp'.g ≠ sp.g) →
    (∀ (i j : Nat) (sp sp' : Spare), sos[i]? = some (some sp) → sos[j]? = some (some sp') → sp.g = sp'.g → i = j) →
    ∃ σ', SimW B M ρ σ' (s.aps (ns.map fun t => .tok t true)) a w ∧ (∀ t sp, σ t = some sp → σ' t = some sp) ∧ (∀ i (h : i < ns.length) (h' : i < sos.length), σ' ns[i] = sos[i]) ∧ ∀ t, t ∉ ns → σ' t = σ t
  | [], sos, s, σ, h, _, _, _, _, _ => ⟨σ, h, fun _ _ h => h, fun i h => (by cases h), fun _ _ => rfl⟩
  | n :: ns, [], s, σ, h, hl, _, _, _, _ => by simp at hl
  | n :: ns, so :: sos, s, σ, h, hl, hnd, hfr, hso, hinj => by
    obtain ⟨n1, n2⟩ := List.nodup_cons.1 hnd
    have hn0 := hfr n List.mem_cons_self
    have h1 := h.ownTok n hn0 so (fun sp e => hso sp (by rw [e]; exact List.mem_cons_self))
    have hσ0 := h.snone hn0
    have hs' : ∀ t, (s.ap (.tok n true)).tk t = if t = n then some true else s.tk t := fun t => AS.tk_set s n t true
    obtain ⟨σ', q1, q2, q3, q4⟩ := SimW.owns ns sos _ _ h1 (by simpa using hl) n2 (fun t ht => by
      rw [hs', if_neg (fun e => n1 (by rw [← e]; exact ht))]; exact hfr t (List.mem_cons_of_mem _ ht)) (fun sp hsp => by
      obtain ⟨p1, p2, p3, p4, p5, p6⟩ := hso sp (List.mem_cons_of_mem _ hsp)
      refine ⟨p1, p2, p3, p4, p5, fun t sp' ht hs hg => ?_⟩
      rw [hs'] at ht
      by_cases e : t = n
      · rw [if_pos e] at hs
        obtain ⟨j, hj⟩ := List.getElem?_of_mem hsp
        have := hinj 0 (j + 1) sp' sp (by simp [hs]) (by simpa using hj) hg
        omega
      · rw [if_neg e] at hs ht
        exact p6 t sp' ht hs hg) (fun i j sp sp' e1 e2 hg => by
      have := hinj (i + 1) (j + 1) sp sp' (by simpa using e1) (by simpa using e2) hg
      omega)
    refine ⟨σ', q1, fun t sp hs => q2 t sp ?_, fun i hi hi' => ?_, fun t ht => ?_⟩
    · split
      · rename_i e; subst e; rw [hσ0] at hs; cases hs
      · exact hs
    · cases i with
      | zero =>
        rw [List.getElem_cons_zero, List.getElem_cons_zero, q4 n n1]
        simp
      | succ i => simpa using q3 i (by simpa using hi) (by simpa using hi')
    · rw [q4 t (fun e => ht (List.mem_cons_of_mem _ e))]
      rw [if_neg (fun e => ht (by rw [e]; exact List.mem_cons_self))]
theorem SimW.reboxes (fV : Nat → List AV → List AV) : ∀ (l : List Nat) (os : List (List AV)) (s : AS), SimW B M ρ σ s a w → l.Nodup → (∀ k (h : k < l.length) (h' : k < os.length), ∃ cs0, s.bx l[k] = some cs0 ∧ ((fV l[k] os[k] = [] ∧ ρ l[k] = none) ∨ ∃ g, ρ l[k] = some g ∧ Hold M ρ σ w g (fV l[k] os[k]))) → SimW B M ρ σ (s.aps (boxWr fV l os)) a w
  | [], os, s, h, _, _ => h
  | b :: l, [], s, h, _, _ => h
  | b :: l, cs :: os, s, h, hn, hh => by
    obtain ⟨n1, n2⟩ := List.nodup_cons.1 hn
    obtain ⟨cs0, q1, q2⟩ := hh 0 (by simp) (by simp)
    refine SimW.reboxes fV l os _ (h.rebox q1 _ q2) n2 (fun k hk hk' => ?_)
    obtain ⟨cs1, p1, p2⟩ := hh (k + 1) (by simpa using hk) (by simpa using hk')
    simp only [List.getElem_cons_succ] at p1 p2
    refine ⟨cs1, ?_, p2⟩
    have hm : l[k]'(by simpa using hk) ∈ l := List.getElem_mem _
    rw [AS.bx_set, if_neg (fun e => n1 (by rw [← e]; exact hm))]
    exact p1
end
end Go.Proofs.YtdmedeaknnldcaaGreatDoor
