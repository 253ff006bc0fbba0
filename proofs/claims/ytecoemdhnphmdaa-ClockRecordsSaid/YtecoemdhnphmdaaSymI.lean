/- Calls. -/
import Derived.Test.YtecoemdhnphmdaaSymX
namespace Go.Proofs.Ytecoemdhnphmdaa
open Go.RowKit
set_option linter.unusedVariables false
set_option linter.unusedSimpArgs false
set_option linter.unnecessarySimpa false
/-- What a call hands back: its result, what its variables hold behind it, and, where the result points to a new variable, what that one holds. -/
structure Ret where
  val : AV
  outs : List (List AV)
  new : Option (List AV)
/-- Without memory: how a function answers. -/
abbrev Gam := FuncId → List AV → List (List AV) → Option Ret
/-- A variable of its own block. -/
def HasBox (M : Mem) (ρ : Rho) (w : World) (g : Nat) (cs : List AV) : Prop := (∃ (ccs : Array Value) (t : TypeId), w.heap[g]? = some (.cells ccs t (0, 0)) ∧ Pw M ρ sig0 ccs cs) ∧ ∀ o, M g o = none
structure Frm (w w' : World) (opn : List Nat) : Prop where
  os : w'.os = w.os
  tape : w'.tape = w.tape
  output : w'.output = w.output
  size : w.heap.size ≤ w'.heap.size
  block : ∀ k, k < w.heap.size → k ∉ opn → w'.heap[k]? = w.heap[k]?
/-- A slice that nobody else may append to. -/
def Owns (M : Mem) (w : World) (base : Nat) : Value → AV → Prop
  | .slice (some a) len cap, .list n _ (some _) => a.off + len * n = a.off + cap * n ∨ base ≤ a.block ∧ (∃ (ccs : Array Value) (t : TypeId), w.heap[a.block]? = some (.cells ccs t (0, 0)) ∧ a.off + cap * n ≤ ccs.size) ∧ ∀ o, a.off + len * n ≤ o → o < a.off + cap * n → M a.block o = none
  | _, _ => True
def gsR (gs : List Nat) : Rho := fun k => gs[k]?
/-- What a call leaves. -/
structure Left (M : Mem) (w : World) (gs : List Nat) (r : Ret) (c : Value) (M' : Mem) (w' : World) : Prop where
  sub : ∀ g o v, M g o = some v → M' g o = some v
  mem : ∀ g o v, M' g o = some v → w'.cell? ⟨g, o, none⟩ = some v
  same : ∀ g o, g < w.heap.size → M' g o = M g o
  frm : Frm w w' gs
  olen : r.outs.length = gs.length
  outs : ∀ k (h : k < gs.length) (h' : k < r.outs.length), HasBox M' (gsR gs) w' gs[k] r.outs[k]
  val : r.new = none → Rd M' (gsR gs) sig0 c (dat2 r.val) ∧ Owns M' w' w.heap.size c r.val
  new : ∀ cs, r.new = some cs → ∃ g, c = .pointer (some ⟨g, 0, none⟩) ∧ w.heap.size ≤ g ∧ HasBox M' (gsR gs) w' g cs
def CallOk (P : Program) (f : FuncId) (args : List AV) (bs : List (List AV)) (r : Ret) : Prop :=
  (∃ fn, P.funcs[f]? = some fn ∧ (fn.name == "runtime.NumGoroutine") = false ∧ fn.body.isNone = false) ∧
  ∀ (M : Mem) (w : World) (cargs : Array Value) (gs : List Nat), (∀ g o v, M g o = some v → w.cell? ⟨g, o, none⟩ = some v) → gs.Nodup → gs.length = bs.length → cargs.size = args.length → (∀ i (h : i < cargs.size) (h' : i < args.length), Rd M (gsR gs) sig0 cargs[i] args[i]) →
    (∀ k (h : k < gs.length) (h' : k < bs.length), HasBox M (gsR gs) w gs[k] bs[k]) → Calls P f cargs w fun e w' => ∃ c M', e = .returned c ∧ Left M w gs r c M' w'
def GOk (P : Program) (Γ : Gam) : Prop := ∀ f args bs r, Γ f args bs = some r → CallOk P f args bs r
def idx : List Nat → Nat → Option Nat
  | [], _ => none
  | x :: l, b => if x = b then some 0 else (idx l b).map (· + 1)
def ptr0 : AV → List Nat
  | .ptr b _ => [b]
  | _ => []
def ptr1 : AV → List Nat
  | .ptr b _ => [b]
  | .fn _ as bs => as.flatMap ptr0 ++ bs.flatMap ptr0
  | _ => []
def adds (l : List Nat) (b : Nat) : List Nat := if l.contains b then l else l ++ [b]
def ptrs (vs : List AV) : List Nat := (vs.flatMap ptr1).foldl adds []
def argp (l : List Nat) : AV → AV
  | .ptr b off => (match idx l b with | some k => .ptr k off | none => .any)
  | x => dat0 x
def argv (l : List Nat) : AV → AV
  | .ptr b off => (match idx l b with | some k => .ptr k off | none => .any)
  | .fn f as bs => .fn f (as.map (argp l)) (bs.map (argp l))
  | x => dat2 x
def boxesOf (s : AS) : List Nat → Option (List (List AV))
  | [] => some []
  | b :: l =>
    match s.bx b, boxesOf s l with
    | some cs, some r => some (cs.map dat0 :: r)
    | _, _ => none
def boxWr : List Nat → List (List AV) → List Wr
  | b :: l, cs :: r => .box b (cs.map dat0) :: boxWr l r
  | _, _ => []
def retWr (s : AS) (dst : Option Nat) (r : Ret) : Option (List Wr) :=
  match r.new, dst with
  | none, none => some []
  | none, some d =>
    (match r.val with
    | .list n xs (some _) => (match s.tk d with | none => some [.tok d true, .env d (.list n xs (some d))] | some _ => none)
    | v => some [.env d (dat2 v)])
  | some cs, some d => (match s.bx d with | none => (if d < s.box.length ∧ s.nin ≤ d then some [.box d (cs.map dat0), .env d (.ptr d 0)] else none) | some _ => none)
  | some _, none => none
def callOp (Γ : Gam) (s : AS) (dst : Option Nat) (fv : Operand) (args : List Operand) : Option (List Wr) :=
  match s.ev fv with
  | .fn (.func f) first captured =>
    (match boxesOf s (ptrs (first ++ args.map s.ev ++ captured)) with
    | some bs =>
      (match Γ f ((first ++ args.map s.ev ++ captured).map (argv (ptrs (first ++ args.map s.ev ++ captured)))) bs with
      | some r =>
        (match retWr s dst r with
        | some W => some (boxWr (ptrs (first ++ args.map s.ev ++ captured)) r.outs ++ W)
        | none => none)
      | none => none)
    | none => none)
  | _ => none
theorem dat0_idem (v : AV) : dat0 (dat0 v) = dat0 v := by
  cases v with
  | fn f as bs => cases as <;> cases bs <;> rfl
  | _ => rfl
theorem dat1_idem (v : AV) : dat1 (dat1 v) = dat1 v := by
  cases v with
  | agg cs => simp [dat1, dat0_idem]
  | fn f as bs => cases as <;> cases bs <;> rfl
  | _ => rfl
theorem dat2_idem (v : AV) : dat2 (dat2 v) = dat2 v := by
  cases v with
  | tup cs => simp [dat2, dat1_idem]
  | agg cs => simp [dat2, dat1, dat0_idem]
  | fn f as bs => cases as <;> cases bs <;> rfl
  | _ => rfl
theorem idx_get : ∀ (l : List Nat) (b k : Nat), idx l b = some k → l[k]? = some b
  | x :: l, b, k, h => by
    unfold idx at h
    split at h
    · rename_i e; cases h; simp [e]
    · cases hq : idx l b with
      | none => rw [hq] at h; cases h
      | some k' => rw [hq] at h; cases h; simpa using idx_get l b k' hq
theorem adds_nodup {l : List Nat} (h : l.Nodup) (b : Nat) : (adds l b).Nodup := by
  unfold adds
  split
  · exact h
  · rename_i hc
    rw [List.nodup_append]
    refine ⟨h, by simp, fun x hx y hy => ?_⟩
    simp at hy
    subst hy
    intro e
    subst e
    exact hc (by simpa using hx)
theorem foldl_adds_nodup : ∀ (m l : List Nat), l.Nodup → (m.foldl adds l).Nodup
  | [], l, h => h
  | b :: m, l, h => foldl_adds_nodup m _ (adds_nodup h b)
theorem ptrs_nodup (vs : List AV) : (ptrs vs).Nodup := foldl_adds_nodup _ _ List.nodup_nil
theorem boxesOf_spec (s : AS) : ∀ (l : List Nat) (bs : List (List AV)), boxesOf s l = some bs → bs.length = l.length ∧ ∀ k (h : k < l.length) (h' : k < bs.length), ∃ cs, s.bx l[k] = some cs ∧ bs[k] = cs.map dat0
  | [], bs, h => by cases h; exact ⟨rfl, fun k h => by cases h⟩
  | b :: l, bs, h => by
    unfold boxesOf at h
    split at h
    · rename_i cs r hb hr
      cases h
      obtain ⟨h1, h2⟩ := boxesOf_spec s l r hr
      refine ⟨by simp [h1], fun k hk hk' => ?_⟩
      cases k with
      | zero => exact ⟨cs, by simpa using hb, rfl⟩
      | succ k => simpa using h2 k (by simpa using hk) (by simpa using hk')
    · cases h
section
variable {P : Program} {B : Base} {M : Mem} {ρ ρ0 : Rho} {σ : Sig} {s : AS} {a : Act} {w : World} {W0 : Nat}
theorem Rd.argp {l gs : List Nat} (hg : ∀ (k b : Nat), l[k]? = some b → ρ b ≠ none → gs[k]? = ρ b) {c : Value} {v : AV} (h : Rd M ρ σ c v) : Rd M (gsR gs) sig0 c (argp l v) := by
  cases h with
  | @ptr _ _ b off g hb =>
    show Rd M (gsR gs) sig0 _ (match idx l b with | some k => .ptr k off | none => .any)
    split
    · rename_i k hk
      exact .ptr (by have := hg k b (idx_get l b k hk) (by rw [hb]; simp); rw [hb] at this; exact this)
    · exact .any
  | any => exact .any
  | v => exact Rd.of0 (Rd.dat0 (ρ := ρ) (σ := σ) .v)
  | nil => exact .nil
  | list cf h1 h2 h3 h4 h5 h6 h7 => exact Rd.of0 (Rd.dat0 (ρ := ρ) (σ := σ) (.list cf h1 h2 h3 h4 h5 h6 h7))
  | agg => exact .any
  | tup => exact .any
  | ref cf h1 h2 h3 => exact Rd.of0 (Rd.dat0 (ρ := ρ) (σ := σ) (.ref cf h1 h2 h3))
  | fn h1 h2 h3 h4 => exact Rd.of0 (Rd.dat0 (ρ := ρ) (σ := σ) (.fn h1 h2 h3 h4))
  | vs => exact .any
theorem Rd.argv {l gs : List Nat} (hg : ∀ (k b : Nat), l[k]? = some b → ρ b ≠ none → gs[k]? = ρ b) {c : Value} {v : AV} (h : Rd M ρ σ c v) : Rd M (gsR gs) sig0 c (argv l v) := by
  cases h with
  | ptr hb => exact Rd.argp (σ := σ) hg (.ptr hb)
  | vs => exact .any
  | fn h1 h2 h3 h4 => exact .fn (by simpa using h1) (fun i x y => by simpa using Rd.argp hg (h2 i x (by simpa using y))) (by simpa using h3) (fun i x y => by simpa using Rd.argp hg (h4 i x (by simpa using y)))
  | any => exact .any
  | v => exact Rd.of0 (Rd.dat2 (ρ := ρ) (σ := σ) .v)
  | nil => exact .nil
  | list cf h1 h2 h3 h4 h5 h6 h7 => exact Rd.of0 (Rd.dat2 (ρ := ρ) (σ := σ) (.list cf h1 h2 h3 h4 h5 h6 h7))
  | agg h1 h2 h3 => exact Rd.of0 (Rd.dat2 (ρ := ρ) (σ := σ) (.agg h1 h2 h3))
  | tup h1 h2 => exact Rd.of0 (Rd.dat2 (ρ := ρ) (σ := σ) (.tup h1 h2))
  | ref cf h1 h2 h3 => exact Rd.of0 (Rd.dat2 (ρ := ρ) (σ := σ) (.ref cf h1 h2 h3))
theorem Pw.dat0 {cc : Array Value} {cs : List AV} (h : Pw M ρ σ cc cs) (ρ' : Rho) (σ' : Sig) : Pw M ρ' σ' cc (cs.map dat0) :=
  ⟨by simpa using h.1, h.2.1, fun i x y => by simpa using (h.2.2 i x (by simpa using y)).dat0.of0⟩
theorem boxWr_bx (s : AS) : ∀ (l : List Nat) (os : List (List AV)), l.Nodup → l.length = os.length → (∀ b ∈ l, b < s.box.length) → (s.aps (boxWr l os)).nin = s.nin ∧ (s.aps (boxWr l os)).env = s.env ∧ (s.aps (boxWr l os)).tok = s.tok ∧ (s.aps (boxWr l os)).box.length = s.box.length ∧
    (∀ b, b ∉ l → (s.aps (boxWr l os)).bx b = s.bx b) ∧ ∀ k (h : k < l.length) (h' : k < os.length), (s.aps (boxWr l os)).bx l[k] = some (os[k].map dat0)
  | [], os, _, _, _ => ⟨rfl, rfl, rfl, rfl, fun _ _ => rfl, fun k h => by cases h⟩
  | b :: l, [], _, hl, _ => by simp at hl
  | b :: l, cs :: os, hn, hl, hb => by
    obtain ⟨n1, n2⟩ := List.nodup_cons.1 hn
    obtain ⟨h0, h1, h2, h3, h4, h5⟩ := boxWr_bx (s.ap (.box b (cs.map dat0))) l os n2 (by simpa using hl) (fun x hx => by simpa [AS.ap] using hb x (List.mem_cons_of_mem _ hx))
    have e : s.aps (boxWr (b :: l) (cs :: os)) = (s.ap (.box b (cs.map dat0))).aps (boxWr l os) := rfl
    rw [e]
    refine ⟨h0, h1, h2, by rw [h3]; simp [AS.ap], fun x hx => ?_, fun k hk hk' => ?_⟩
    · rw [h4 x (fun h => hx (List.mem_cons_of_mem _ h)), AS.bx_set, if_neg (fun e => hx (by rw [e.1]; exact List.mem_cons_self))]
    · cases k with
      | zero =>
        rw [List.getElem_cons_zero, List.getElem_cons_zero, h4 b n1, AS.bx_set, if_pos ⟨rfl, hb b List.mem_cons_self⟩]
      | succ k => simpa using h5 k (by simpa using hk) (by simpa using hk')
/-- What a call leaves, for its caller. -/
theorem SimW.after (h : SimW B M ρ σ s a w) {M' : Mem} {w' : World} {l gs : List Nat} {os : List (List AV)} (hn : l.Nodup) (hgl : gs.length = l.length) (hol : os.length = l.length) (hg : ∀ k (h1 : k < l.length) (h2 : k < gs.length), ρ l[k] = some gs[k])
    (sub : ∀ g o v, M g o = some v → M' g o = some v) (mem : ∀ g o v, M' g o = some v → w'.cell? ⟨g, o, none⟩ = some v) (same : ∀ g o, g < w.heap.size → M' g o = M g o) (frm : Frm w w' gs)
    (outs : ∀ k (h : k < gs.length) (h' : k < os.length), HasBox M' (gsR gs) w' gs[k] os[k]) : SimW B M' ρ σ (s.aps (boxWr l os)) a w' := by
  have hbl : ∀ b ∈ l, ∃ cs, s.bx b = some cs := fun b hb => by
    obtain ⟨k, hk, rfl⟩ := List.getElem_of_mem hb
    exact h.rho _ _ (hg k hk (by omega))
  obtain ⟨e0, e1, e2, e3, e4, e5⟩ := boxWr_bx s l os hn hol.symm (fun b hb => by obtain ⟨cs, hc⟩ := hbl b hb; exact AS.bx_lt hc)
  have eat : ∀ t, (s.aps (boxWr l os)).at t = s.at t := fun t => by unfold AS.at; rw [e1]
  have etk : ∀ t, (s.aps (boxWr l os)).tk t = s.tk t := fun t => by unfold AS.tk; rw [e2]
  have memgs : ∀ b g, ρ b = some g → (g ∈ gs ↔ b ∈ l) := fun b g hb => by
    constructor
    · intro hm
      obtain ⟨k, hk, rfl⟩ := List.getElem_of_mem hm
      have := h.inj _ _ _ hb (hg k (by omega) hk)
      rw [this]; exact List.getElem_mem _
    · intro hm
      obtain ⟨k, hk, rfl⟩ := List.getElem_of_mem hm
      have := hg k hk (by omega)
      rw [hb] at this
      rw [Option.some.inj this]; exact List.getElem_mem _
  have mono : ∀ c v, Rd M ρ σ c v → Rd M' ρ σ c v := fun c v hr => hr.mono sub _ _ (fun _ _ h => h) (fun _ _ h => h)
  have inopn : ∀ k, k < B.w0.heap.size → k ∉ B.opn → k ∉ gs := fun k h1 h2 hm => by
    obtain ⟨j, hj, rfl⟩ := List.getElem_of_mem hm
    obtain ⟨cs, hcs⟩ := h.rho _ _ (hg j (by omega) hj)
    obtain ⟨g', q1, -, -, q4⟩ := h.box _ _ hcs
    rw [hg j (by omega) hj] at q1
    have e := Option.some.inj q1
    rw [← e] at q4
    rcases q4 with q4 | q4
    · omega
    · exact h2 q4
  refine { nin := by rw [e0]; exact h.nin, own := h.own, fresh := fun b g hn hr => h.fresh b g (by rw [← e0]; exact hn) hr, len := by rw [e1]; exact h.len, blen := by rw [e3, e1]; exact h.blen, env := fun t => by rw [eat]; exact mono _ _ (h.env t), defers := h.defers, mem := mem, memB := fun g o hg' => ?_, os := frm.os.trans h.os, tape := frm.tape.trans h.tape, output := frm.output.trans h.output, size := Nat.le_trans h.size frm.size, block := fun k h1 h2 => ?_, box := fun b cs hb => ?_, rho := fun b g hb => ?_, inj := h.inj, tok := fun t sp ht hs => ?_, sig := fun t sp hs => by rw [etk]; exact h.sig t sp hs, tinj := fun t t' sp sp' ht ht' => by rw [etk] at ht ht'; exact h.tinj t t' sp sp' ht ht' }
  · rw [same g o (Nat.lt_of_lt_of_le hg' h.size)]; exact h.memB g o hg'
  · rw [frm.block k (Nat.lt_of_lt_of_le h1 h.size) (inopn k h1 h2)]; exact h.block k h1 h2
  · by_cases hm : b ∈ l
    · obtain ⟨k, hk, rfl⟩ := List.getElem_of_mem hm
      rw [e5 k hk (by omega)] at hb
      cases hb
      have hgk := hg k hk (by omega)
      obtain ⟨cs0, hcs0⟩ := hbl _ hm
      obtain ⟨g0, q1, -, q3, q4⟩ := h.box _ _ hcs0
      rw [hgk] at q1
      cases q1
      obtain ⟨⟨ccs, t, r1, r2⟩, r3⟩ := outs k (by omega) (by omega)
      obtain ⟨p1, p2, p3⟩ := r2.dat0 ρ σ
      exact ⟨_, hgk, ⟨ccs, t, r1, p1, p2, p3⟩, r3, q4⟩
    · rw [e4 b hm] at hb
      obtain ⟨g, q1, ⟨ccs, t, r1, r2, r3, r4⟩, q3, q4⟩ := h.box b cs hb
      have hlt := heap_lt r1
      have hng : g ∉ gs := fun e => hm ((memgs b g q1).1 e)
      exact ⟨g, q1, ⟨ccs, t, by rw [frm.block g hlt hng]; exact r1, r2, r3, fun i x y => mono _ _ (r4 i x y)⟩, fun o => by rw [same g o hlt]; exact q3 o, q4⟩
  · obtain ⟨cs, hcs⟩ := h.rho b g hb
    by_cases hm : b ∈ l
    · obtain ⟨k, hk, rfl⟩ := List.getElem_of_mem hm
      exact ⟨_, e5 k hk (by omega)⟩
    · exact ⟨cs, by rw [e4 b hm]; exact hcs⟩
  · rw [etk] at ht
    obtain ⟨h3, ⟨ccs, ty, h4, h5, h6⟩, h7, h8⟩ := h.tok t sp ht hs
    have hlt := heap_lt h4
    have hng : sp.g ∉ gs := fun e => by
      obtain ⟨k, hk, e'⟩ := List.getElem_of_mem e
      exact h8 _ (e' ▸ hg k (by omega) hk)
    exact ⟨h3, ⟨ccs, ty, by rw [frm.block _ hlt hng]; exact h4, h5, h6⟩, fun o x y => by rw [same _ o hlt]; exact h7 o x y, h8⟩
/-- A variable that came back from a call is taken over. -/
theorem SimW.adopt (h : SimW B M ρ σ s a w) (d : Nat) (hd : d < s.box.length ∧ s.nin ≤ d) (hf : s.bx d = none) (g : Nat) (cs : List AV) (hb : HasBox M ρ0 w g cs) (hbase : B.w0.heap.size ≤ g) (hr : ∀ b, ρ b ≠ some g) (ht : ∀ t sp, s.tk t = some true → σ t = some sp → sp.g ≠ g) :
    SimW B M (updR ρ d g) σ (s.ap (.box d (cs.map Go.Proofs.Ytecoemdhnphmdaa.dat0))) a w := by
  have hrd : ρ d = none := by
    cases hq : ρ d with
    | none => rfl
    | some g => obtain ⟨cs', h2⟩ := h.rho d g hq; rw [hf] at h2; cases h2
  have up : ∀ b g', ρ b = some g' → updR ρ d g b = some g' := fun b g' hb => by
    unfold updR; split
    · rename_i e; subst e; rw [hrd] at hb; cases hb
    · exact hb
  obtain ⟨⟨ccs, t, r1, r2⟩, r3⟩ := hb
  refine { h with blen := by simpa [AS.ap] using h.blen, own := fun k g g' hk hr' => updR_own h hd.2 k g g' hk hr', fresh := fun b g hn hr' => updR_fresh h hbase b g hn hr', env := fun t => (h.env t).up up fun _ _ h => h, box := fun b cs' hb => ?_, rho := fun b g' hb => ?_, inj := fun b b' g' hb hb' => ?_, tok := fun t' sp ht' hs => ?_ }
  · rw [AS.bx_set] at hb
    by_cases hbd : b = d
    · subst hbd
      rw [if_pos ⟨rfl, hd.1⟩] at hb
      cases hb
      obtain ⟨p1, p2, p3⟩ := r2.dat0 (updR ρ b g) σ
      exact ⟨g, by simp [updR], ⟨ccs, t, r1, p1, p2, p3⟩, r3, .inl hbase⟩
    · rw [if_neg (fun e => hbd e.1)] at hb
      obtain ⟨g', h2, ⟨ccs', t', h3, h4, h5, h6⟩, h7, h8⟩ := h.box b cs' hb
      exact ⟨g', up b g' h2, ⟨ccs', t', h3, h4, h5, fun i x y => (h6 i x y).up up fun _ _ h => h⟩, h7, h8⟩
  · unfold updR at hb
    split at hb
    · rename_i e; subst e; exact ⟨_, by rw [AS.bx_set, if_pos ⟨rfl, hd.1⟩]⟩
    · rename_i e
      obtain ⟨cs', h2⟩ := h.rho b g' hb
      exact ⟨cs', by rw [AS.bx_set, if_neg (fun x => e x.1)]; exact h2⟩
  · unfold updR at hb hb'
    split at hb
    · rename_i e
      split at hb'
      · rename_i e'; rw [e, e']
      · cases hb; exact absurd hb' (hr _)
    · split at hb'
      · cases hb'; exact absurd hb (hr _)
      · exact h.inj b b' g' hb hb'
  · obtain ⟨h3, h4, h7, h8⟩ := h.tok t' sp ht' hs
    refine ⟨h3, h4, h7, fun b hb => ?_⟩
    unfold updR at hb
    split at hb
    · exact ht t' sp ht' hs (Option.some.inj hb).symm
    · exact h8 b hb
/-- A slice that came back from a call may be appended to. -/
theorem SimW.ownTok (h : SimW B M ρ σ s a w) (d : Nat) (hu : s.tk d = none) (sp : Spare) (hbase : B.w0.heap.size ≤ sp.g) (hrow : ∃ (ccs : Array Value) (ty : TypeId), w.heap[sp.g]? = some (.cells ccs ty (0, 0)) ∧ sp.lo ≤ sp.hi ∧ sp.hi ≤ ccs.size) (hm : ∀ o, sp.lo ≤ o → o < sp.hi → M sp.g o = none) (hr : ∀ b, ρ b ≠ some sp.g) (ht : ∀ t sp', s.tk t = some true → σ t = some sp' → sp'.g ≠ sp.g) :
    SimW B M ρ (updS σ d sp) (s.ap (.tok d true)) a w := by
  have hsd : σ d = none := by
    cases hq : σ d with
    | none => rfl
    | some sp => exact absurd hu (h.sig d sp hq)
  have ups : ∀ k sp', σ k = some sp' → updS σ d sp k = some sp' := fun k sp' hk => by
    unfold updS; split
    · rename_i e; subst e; rw [hsd] at hk; cases hk
    · exact hk
  refine { h with env := fun t => (h.env t).up (fun _ _ h => h) ups, box := fun b cs hb => ?_, tok := fun t sp' ht' hs => ?_, sig := fun t sp' hs => ?_, tinj := fun t t' sp1 sp2 h1 h2 hs1 hs2 hg => ?_ }
  · obtain ⟨g, q1, ⟨ccs, t, r1, r2, r3, r4⟩, q3⟩ := h.box b cs hb
    exact ⟨g, q1, ⟨ccs, t, r1, r2, r3, fun i x y => (r4 i x y).up (fun _ _ h => h) ups⟩, q3⟩
  · rw [AS.tk_set] at ht'
    unfold updS at hs
    by_cases e : t = d
    · rw [if_pos e] at hs; cases hs; exact ⟨hbase, hrow, hm, hr⟩
    · rw [if_neg e] at hs ht'; exact h.tok t sp' ht' hs
  · rw [AS.tk_set]
    unfold updS at hs
    by_cases e : t = d
    · rw [if_pos e]; simp
    · rw [if_neg e] at hs ⊢; exact h.sig t sp' hs
  · rw [AS.tk_set] at h1 h2
    unfold updS at hs1 hs2
    by_cases e1 : t = d
    · by_cases e2 : t' = d
      · rw [e1, e2]
      · rw [if_pos e1] at hs1
        rw [if_neg e2] at h2 hs2
        cases hs1
        exact absurd hg.symm (ht _ _ h2 hs2)
    · rw [if_neg e1] at h1 hs1
      by_cases e2 : t' = d
      · rw [if_pos e2] at hs2
        cases hs2
        exact absurd hg (ht _ _ h1 hs1)
      · rw [if_neg e2] at h2 hs2
        exact h.tinj t t' sp1 sp2 h1 h2 hs1 hs2 hg
theorem retWr_ok (h : SimW B M ρ σ s a w) (hsz : B.w0.heap.size ≤ W0) (hold : ∀ b g, ρ b = some g → g < W0) (holdt : ∀ t sp, s.tk t = some true → σ t = some sp → sp.g < W0) (dst : Option Nat) (r : Ret) (W : List Wr) (hs : retWr s dst r = some W) (c : Value)
    (val : r.new = none → Rd M ρ0 sig0 c (dat2 r.val) ∧ Owns M w W0 c r.val) (new : ∀ cs, r.new = some cs → ∃ g, c = .pointer (some ⟨g, 0, none⟩) ∧ W0 ≤ g ∧ HasBox M ρ0 w g cs) : Sim B (s.aps W) (a.put dst c) w := by
  unfold retWr at hs
  split at hs
  · rename_i hn
    cases hs
    exact ⟨M, ρ, σ, h⟩
  · rename_i d hn
    obtain ⟨v1, v2⟩ := val hn
    split at hs
    · rename_i n xs k hv
      rw [hv] at v1 v2
      split at hs
      · rename_i htk
        cases hs
        have v1' : Rd M ρ0 sig0 c (.list n xs none) := v1
        generalize c = cv at v1' v2 ⊢
        cases v1' with
        | nil => exact ⟨M, ρ, σ, (h.tokfree d htk).put .nil d⟩
        | @list _ _ g off len cap _ _ _ cf h1 h2 h3 h4 h5 h6 h7 =>
          rcases v2 with v2 | ⟨o1, ⟨ccs, ty, o2, o3⟩, o4⟩
          · exact ⟨M, ρ, σ, (h.tokfree d htk).put (.list cf h1 h2 h3 h4 h5 h6 (fun k' hk' => .inl v2)) d⟩
          have hle : len * n ≤ cap * n := Nat.mul_le_mul_right _ h2
          refine ⟨M, ρ, _, (h.ownTok d htk ⟨g, off + len * n, off + cap * n⟩ (Nat.le_trans hsz o1) ⟨ccs, ty, o2, by dsimp only; omega, o3⟩ o4 (fun b hb => ?_) (fun t sp' ht hs' e => ?_)).put (.list cf h1 h2 h3 h4 h5 h6 (fun k' hk' => ?_)) d⟩
          · have := hold b _ hb; dsimp only at this o1; omega
          · have := holdt t sp' ht hs'; dsimp only at e o1; omega
          · cases hk'; exact .inr ⟨_, by simp [updS]; rfl, rfl, rfl, rfl⟩
      · cases hs
    · cases hs
      have v3 := v1.dat2
      rw [dat2_idem] at v3
      exact ⟨M, ρ, σ, h.put v3.of0 d⟩
  · rename_i cs d hn
    split at hs
    · rename_i hb
      split at hs
      · rename_i hlt
        cases hs
        obtain ⟨g, rfl, n2, n3⟩ := new cs hn
        refine ⟨M, _, σ, (h.adopt (ρ0 := ρ0) d hlt hb g cs n3 (Nat.le_trans hsz n2) (fun b hb' => ?_) (fun t sp ht hs' e => ?_)).put (.ptr (by simp [updR])) d⟩
        · have := hold b _ hb'; omega
        · have := holdt t sp ht hs'; omega
      · cases hs
    · cases hs
  · cases hs
end
end Go.Proofs.Ytecoemdhnphmdaa
