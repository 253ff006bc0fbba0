/- Several texts as one (written by pack.py). -/
import Derived.WalkKit
import Derived.WalkSpells
import Derived.WalkLawsBesides
import Derived.Handy
import Derived.BigQuiet
import Derived.Orders
import Derived.RegionTactic
import Derived.Test.YthdgnfcbehcplaaGreatDoorProg
import Derived.Deep.MidRow
import Derived.Below
import Derived.ArgAppend
import Derived.Laws.BytesArg
import Derived.Lib.ConvBytes
import Derived.Laws.StructEq
set_option linter.unusedVariables false
set_option linter.unusedSimpArgs false
set_option linter.unnecessarySimpa false
namespace Go.Proofs.YthdgnfcbehcplaaGreatDoor
section
open Go.RowKit
theorem acc {P : Program} {f : FuncId} {args : Array Value} {w0 w : World} {R : Ending -> Prop} (hb : Below w0.heap.size w0 w) (h : Calls P f args w λ e w' => R e /\ Below w.heap.size w w') :
  Calls P f args w λ e w' => R e /\ Below w0.heap.size w0 w' := h.mono λ _ _ ⟨h1, h2⟩ => ⟨h1, hb.trans (h2.mono hb.size)⟩
theorem zzj {p : Prop} (h : p) : Hid p := h
end
section
open Go.RowKit
structure More where
 d : Nat
 os : Array Obj
 deriving Inhabited
end
section
section
variable {P : Program} {ops : Array Oper} {Q : Exit -> Act -> World -> Prop}
def Came (o : Oper) (L : Nat -> Bool) : Prop := ∀ e ∈ o.after, Region.binds .any e = true -> L e.on = true
def Jl (L : Nat -> Bool) (i : Nat) : Nat -> Bool := λ j => if j = i then true else L j
def Steps (P : Program) (ops : Array Oper) (Q : Exit -> Act -> World -> Prop) (I : (Nat -> Bool) -> Act -> World -> Prop) : List Oper -> Nat -> Prop
 | [], _ => True
 | o :: rest, i => (∀ L a w, L i = false -> Came o L -> I L a w -> ∀ K' : Act -> World -> Prop, (∀ a' w', I (Jl L i) a' w' -> K' a' w') -> if Region.wanted o (yielded ops a.tmps) = true then Oper.wp P o a w K' Q else K' (a.put o.dst undef) w) /\ Steps P ops Q I rest (i + 1)
theorem Steps.at {I : (Nat -> Bool) -> Act -> World -> Prop} : ∀ (l : List Oper) (i j : Nat) (o : Oper), Steps P ops Q I l i -> l[j]? = some o ->
  ∀ L a w, L (i + j) = false -> Came o L -> I L a w -> ∀ K' : Act -> World -> Prop, (∀ a' w', I (Jl L (i + j)) a' w' -> K' a' w') -> if Region.wanted o (yielded ops a.tmps) = true then Oper.wp P o a w K' Q else K' (a.put o.dst undef) w
 | [], _, _, _, _, h => by simp at h
 | o' :: rest, i, 0, o, hs, h => by
  have : o' = o := by simpa using h
  subst this
  exact hs.1
 | o' :: rest, i, j + 1, o, hs, h => by
  have := Steps.at rest (i + 1) j o hs.2 (by simpa using h)
  rw [show i + 1 + j = i + (j + 1) by omega] at this
  exact this
def left (L : Nat -> Bool) : Nat -> Nat
 | 0 => 0
 | n + 1 => left L n + (if L n = true then 0 else 1)
theorem zgk {L : Nat -> Bool} {i : Nat} (h : L i = false) : ∀ n, left (Jl L i) n + (if i < n then 1 else 0) = left L n
 | 0 => by simp [left]
 | n + 1 => by
  have ih := zgk h n
  unfold left
  by_cases hn : n = i
  ·subst hn
   have e1 : ¬ n < n := by omega
   rw [if_neg e1] at ih
   simp only [Jl, if_true, h, Bool.false_eq_true, if_false]
   have e2 : n < n + 1 := by omega
   rw [if_pos e2]
   change left (Jl L n) n + 0 + 1 = left L n + 1
   omega
  ·have e : Jl L i n = L n := by simp [Jl, hn]
   rw [e]
   by_cases hi : i < n
   ·rw [if_pos hi] at ih
    have e3 : (if i < n + 1 then 1 else 0) = 1 := if_pos (by omega)
    rw [e3]
    omega
   ·rw [if_neg hi] at ih
    have e3 : (if i < n + 1 then 1 else 0) = 0 := if_neg (by omega)
    rw [e3]
    omega
theorem zgm {L : Nat -> Bool} : ∀ n, left L n = 0 -> ∀ i, i < n -> L i = true
 | 0, _, i, hi => by omega
 | n + 1, h, i, hi => by
  unfold left at h
  by_cases hn : i = n
  ·subst hn
   cases hL : L i
   ·rw [hL] at h; simp at h
   ·rfl
  ·exact zgm n (by omega) i (by omega)
def zj8 (ops : Array Oper) : Bool := (List.range ops.size).all λ i => match ops[i]? with
 | some o => o.after.all λ e => !Region.binds .any e || decide (e.on < i)
 | none => true
theorem zj9 (h : zj8 ops = true) {i : Nat} {o : Oper} (ho : ops[i]? = some o) : ∀ e ∈ o.after, Region.binds .any e = true -> e.on < i := by
 intro e he hb
 have hi : i < ops.size := (Array.getElem?_eq_some_iff.1 ho).1
 have h1 := (List.all_eq_true.1 h) i (List.mem_range.2 hi)
 rw [ho] at h1
 have h2 := (Array.all_eq_true_iff_forall_mem.1 h1) e he
 rw [hb] at h2
 simpa using h2
def ziG (listed : Array Bool) : Nat -> Bool := λ j => listed.getD j false
theorem ziH {listed : Array Bool} {i : Nat} (hi : i < listed.size) : ziG (listed.setIfInBounds i true) = Jl (ziG listed) i := by
 funext j
 unfold ziG Jl
 by_cases h : j = i
 ·subst h; simp [hi]
 ·rw [if_neg h, getD_set_ne false (Ne.symm h)]
theorem zoz {I : (Nat -> Bool) -> Act -> World -> Prop} (hdown : zj8 ops = true) (hs : Steps P ops Q I ops.toList 0) (hd : ∀ L a w, (∀ i, i < ops.size -> L i = true) -> I L a w -> Q .normal a w) :
  ∀ (fuel : Nat) (listed : Array Bool) (a : Act) (w : World), listed.size = ops.size -> left (ziG listed) ops.size <= fuel -> I (ziG listed) a w -> wpAny P .any ops Q fuel listed a w := by
 have hready : ∀ (listed : Array Bool), listed.size = ops.size -> Region.ready .any ops listed = [] -> ∀ i, i < ops.size -> ziG listed i = true := by
  intro listed hsz hr i
  induction i using Nat.strongRecOn with
  | _ i ih =>
   intro hi
   cases hc : ziG listed i
   ·have hm : i ∈ Region.ready .any ops listed := by
     rw [mem_ready]
     refine ⟨?_, ops[i], Array.getElem?_eq_getElem hi, λ e he hb => ?_⟩
     ·have hc' : listed.getD i false = false := hc
      have hi' : i < listed.size := by omega
      rw [Array.getD_eq_getD_getElem?, Array.getElem?_eq_getElem hi'] at hc' |-
      simpa using hc'
     ·have := zj9 hdown (Array.getElem?_eq_getElem hi) e he hb
      exact ih e.on this (by omega)
    rw [hr] at hm
    cases hm
   ·rfl
 intro fuel
 induction fuel with
 | zero =>
  intro listed a w hsz hl hI
  have hall := zgm ops.size (by omega : left (ziG listed) ops.size = 0)
  refine ⟨?_, hd _ a w hall hI⟩
  cases hr : Region.ready .any ops listed with
  | nil => rfl
  | cons i rs =>
   have hm : i ∈ Region.ready .any ops listed := by rw [hr]; exact List.mem_cons_self
   obtain ⟨h1, o, ho, -⟩ := mem_ready.1 hm
   have hi : i < ops.size := (Array.getElem?_eq_some_iff.1 ho).1
   have h2 := hall i hi
   have hi' : i < listed.size := by omega
   unfold ziG at h2
   rw [Array.getD_eq_getD_getElem?, Array.getElem?_eq_getElem hi'] at h1 h2
   simp at h1 h2
   rw [h1] at h2
   cases h2
 | succ fuel ih =>
  intro listed a w hsz hl hI
  refine ⟨λ hr => hd _ a w (hready listed hsz hr) hI, λ i hi => ?_⟩
  obtain ⟨h1, o, ho, hall⟩ := mem_ready.1 hi
  have hin : i < ops.size := (Array.getElem?_eq_some_iff.1 ho).1
  have hi' : i < listed.size := by omega
  have hLi : ziG listed i = false := by
   unfold ziG
   rw [Array.getD_eq_getD_getElem?, Array.getElem?_eq_getElem hi'] at h1 |-
   simpa using h1
  refine wpOp_step ho λ K' hK => ?_
  have hst := Steps.at ops.toList 0 i o hs (by simpa using ho)
  rw [Nat.zero_add] at hst
  refine hst (ziG listed) a w hLi (λ e he hb => hall e he hb) hI K' λ a' w' hI' => hK a' w' ?_
  refine ih (listed.setIfInBounds i true) a' w' (by simpa using hsz) ?_ (by rw [ziH hi']; exact hI')
  rw [ziH hi']
  have := zgk hLi ops.size
  rw [if_pos hin] at this
  omega
theorem zf5 (n : Nat) : ziG (Array.replicate n false) = λ _ => false := by
 funext j
 unfold ziG
 by_cases h : j < n
 ·simp [h]
 ·simp [h]
theorem zgl : ∀ n, left (λ _ => false) n = n
 | 0 => rfl
 | n + 1 => by unfold left; rw [zgl n]; simp
end
end
section
section
variable {P : Program} {ops : Array Oper} {Q : Exit -> Act -> World -> Prop}
def zfD (ops : Array Oper) (L : Nat -> Bool) : Prop := ∀ (i : Nat) (o : Oper), ops[i]? = some o -> L i = true -> Came o L
theorem Came.more {o : Oper} {L : Nat -> Bool} {i : Nat} (h : Came o L) : Came o (Jl L i) := λ e he hb => by
 unfold Jl; split
 ·rfl
 ·exact h e he hb
def Steps2 (P : Program) (ops : Array Oper) (Q : Exit -> Act -> World -> Prop) (I : (Nat -> Bool) -> Act -> World -> Prop) : List Oper -> Nat -> Prop
 | [], _ => True
 | o :: rest, i => (∀ L a w, L i = false -> zfD ops L -> Came o L -> I L a w -> ∀ K' : Act -> World -> Prop, (∀ a' w', I (Jl L i) a' w' -> K' a' w') -> if Region.wanted o (yielded ops a.tmps) = true then Oper.wp P o a w K' Q else K' (a.put o.dst undef) w) /\ Steps2 P ops Q I rest (i + 1)
theorem Steps2.steps {I : (Nat -> Bool) -> Act -> World -> Prop} : ∀ (l : List Oper) (i : Nat), (∀ j, l[j]? = ops[i + j]?) -> Steps2 P ops Q I l i -> Steps P ops Q (λ L a w => zfD ops L /\ I L a w) l i
 | [], _, _, _ => trivial
 | o :: rest, i, hl, ⟨h, hs⟩ => by
  have h0 : ops[i]? = some o := by simpa using (hl 0).symm
  refine ⟨λ L a w hL hc ⟨hcl, hI⟩ K' hK => h L a w hL hcl hc hI K' λ a' w' hI' => hK a' w' ⟨λ j o' hj hLj => ?_, hI'⟩, Steps2.steps rest (i + 1) (λ j => by have := hl (j + 1); simpa [Nat.add_assoc, Nat.add_comm 1 j] using this) hs⟩
  by_cases hji : j = i
  ·subst hji
   rw [h0] at hj
   cases hj
   exact hc.more
  ·exact (hcl j o' hj (by simpa [Jl, hji] using hLj)).more
theorem zch {a : Act} {w : World} (I : (Nat -> Bool) -> Act -> World -> Prop) (hdown : zj8 ops = true) (h0 : I (λ _ => false) a w.drew)
  (hs : Steps2 P ops Q I ops.toList 0) (hd : ∀ L a w, (∀ i, i < ops.size -> L i = true) -> I L a w -> Q .normal a w) : wpAny P .any ops Q ops.size (Array.replicate ops.size false) a w.drew :=
 zoz (I := λ L a w => zfD ops L /\ I L a w) hdown (Steps2.steps ops.toList 0 (λ j => by simp) hs) (λ L a w hall h => hd L a w hall h.2) ops.size _ a _ (by simp) (by rw [zf5, zgl]; exact Nat.le_refl _) (by rw [zf5]; exact ⟨λ _ _ _ h => Bool.noConfusion h, h0⟩)
end
end
section
def gtab0 : List Go.Value := [false, true, false, true, false, false, true].map Go.Value.bool
def gtab1 : List Go.Value := [false, false, false, false, false, false, false, false, true, true, false, false, false, true, false, true, false, false, false, false, true, false, true, true, true, true, true, true, false, true, true, true, true, true, true, false, true, true, true, true, true, true, false, false, false, true, true, true, false].map Go.Value.bool
def gtab2 : List Go.Value := [false, false, true, false, true, true, true].map Go.Value.bool
def gtab3 : List Go.Value := [false, true, true, false, false, false, false].map Go.Value.bool
def glb : Nat -> Option (List Go.Value)
 | 0 => some gtab0
 | 1 => some gtab1
 | 2 => some gtab2
 | 3 => some gtab3
 | _ => none
def zpI (f : Nat) : Bool := Nat.beq f 52 || Nat.beq f 44
end
section
open Go.RowKit
inductive Kd where
 | int (k : IntKind)
 | str
 | bool
 deriving Inhabited, DecidableEq
structure MK where
 aK : Bool
 aV : Bool
 ks : List Kd
 vs : List Kd
 deriving Inhabited, DecidableEq
inductive AV where
 | any
 | v (x : Value)
 | list (n : Nat) (xs : List (List AV)) (tk : Option Nat)
 | agg (cs : List AV)
 | tup (cs : List AV)
 | ptr (b off : Nat)
 | ref (cs : List AV)
 | fn (f : Fn) (first captured : List AV)
 | vs (b off len n : Nat)
 | ub
 | mref (b : Nat)
 | mp (d : MK) (xs : List (List AV))
 deriving Inhabited
abbrev Mem := Nat -> Nat -> Option Value
structure Spare where
 g : Nat
 lo : Nat
 hi : Nat
abbrev Rho := Nat -> Option Nat
abbrev Sig := Nat -> Option Spare
def JD : Rho := λ _ => none
def jE : Sig := λ _ => none
def vk (b : Nat) : Nat := 64 * (10000000 + b)
def vm (b : Nat) : Nat := vk b + 1
def tA (t : Nat) : Nat := 64 * (20000000 + t)
def tI (i : Nat) : Nat := 64 * (30000000 + i)
def tC (b j m : Nat) : Nat := 64 * (100000000 + 4096 * b + j) + m
def tD (d i : Nat) : Nat := 64 * d + i
def vA (t : Nat) : Nat := 1000000 + t
def vB (b j : Nat) : Nat := 2000000 + 4096 * b + j
def TokOk (σ : Sig) (t : Option Nat) (g m b lo hi : Nat) : Prop := ∀ k, t = some k -> b = hi \/ ∃ s, σ k = some s /\ s.g = g /\ s.lo = lo /\ s.hi = hi /\ ∃ q, b = q * m
inductive Rd (M : Mem) : Rho -> Sig -> Value -> AV -> Prop
 | any {ρ : Rho} {σ : Sig} {c : Value} : Rd M ρ σ c .any
 | v {ρ : Rho} {σ : Sig} {x : Value} : Rd M ρ σ x (.v x)
 | nil {ρ : Rho} {σ : Sig} {n : Nat} {t : Option Nat} {a : Option Addr} (ha : a = none \/ t = none := by first | exact .inl rfl | assumption | exact .inr rfl) : Rd M ρ σ (.slice a 0 0) (.list n [] t)
 | list {ρ : Rho} {σ : Sig} {g off len cap n : Nat} {xs : List (List AV)} {t : Option Nat} (cf : Nat -> Nat -> Value) (hl : xs.length = len) (hc : len <= cap)
   (hn : ∀ i (h : i < xs.length), (xs[i]).length = n)
   (hm : ∀ i j, i < xs.length -> j < n -> M g (off + i * n + j) = some (cf i j)) (h1 : ∀ i j, (cf i j).oneCell' = true)
   (hr : ∀ i j (h : i < xs.length) (h' : j < (xs[i]).length), Rd M JD jE (cf i j) ((xs[i])[j]))
   (ht : TokOk σ t g n off (off + len * n) (off + cap * n)) : Rd M ρ σ (.slice (some ⟨g, off, none⟩) len cap) (.list n xs t)
 | agg {ρ : Rho} {σ : Sig} {cs : Array Value} {as1 : List AV} (hl : cs.size = as1.length) (h1 : ∀ i (h : i < cs.size), (cs[i]).oneCell' = true) (hr : ∀ i (h : i < cs.size) (h' : i < as1.length), Rd M ρ σ cs[i] as1[i]) : Rd M ρ σ (.agg cs) (.agg as1)
 | tup {ρ : Rho} {σ : Sig} {cs : Array Value} {as1 : List AV} (hl : cs.size = as1.length) (hr : ∀ i (h : i < cs.size) (h' : i < as1.length), Rd M ρ σ cs[i] as1[i]) : Rd M ρ σ (.tuple cs) (.tup as1)
 | ptr {ρ : Rho} {σ : Sig} {b off g : Nat} (h : ρ b = some g) : Rd M ρ σ (.pointer (some ⟨g, off, none⟩)) (.ptr b off)
 | ref {ρ : Rho} {σ : Sig} {g off : Nat} {as1 : List AV} (cf : Nat -> Value) (hm : ∀ j, j < as1.length -> M g (off + j) = some (cf j)) (h1 : ∀ j, (cf j).oneCell' = true) (hr : ∀ j (h : j < as1.length), Rd M JD jE (cf j) as1[j]) : Rd M ρ σ (.pointer (some ⟨g, off, none⟩)) (.ref as1)
 | fn {ρ : Rho} {σ : Sig} {f : Fn} {fs cs : Array Value} {as1 bs : List AV} (hl : fs.size = as1.length) (hr : ∀ i (h : i < fs.size) (h' : i < as1.length), Rd M ρ σ fs[i] as1[i]) (hl2 : cs.size = bs.length) (hr2 : ∀ i (h : i < cs.size) (h' : i < bs.length), Rd M ρ σ cs[i] bs[i]) : Rd M ρ σ (.func f fs cs) (.fn f as1 bs)
 | vs {ρ : Rho} {σ : Sig} {b g off len cap n : Nat} (h : ρ b = some g) (hl : len <= cap) (hc : ∃ sp, σ (vk b) = some sp /\ sp.g = g /\ (off + cap) * n = sp.hi) : Rd M ρ σ (.slice (some ⟨g, off * n, none⟩) len cap) (.vs b off len n)
 | ub {ρ : Rho} {σ : Sig} {b : Bool} : Rd M ρ σ (.bool b) .ub
 | mref {ρ : Rho} {σ : Sig} {b g : Nat} (h : ρ b = some g) : Rd M ρ σ (.map (some g)) (.mref b)
 | vsn {ρ : Rho} {σ : Sig} {b off n : Nat} : Rd M ρ σ (.slice none 0 0) (.vs b off 0 n)
 | vse {ρ : Rho} {σ : Sig} {b g o off n : Nat} : Rd M ρ σ (.slice (some ⟨g, o, none⟩) 0 0) (.vs b off 0 n)
theorem TokOk.mono {σ σ' : Sig} {t : Option Nat} {g m b lo hi : Nat} (h : TokOk σ t g m b lo hi) (hs : ∀ k s, σ k = some s -> σ' k = some s) : TokOk σ' t g m b lo hi := λ k hk =>
 (h k hk).imp id λ ⟨s, h1, h2⟩ => ⟨s, hs k s h1, h2⟩
theorem Rd.mono {M M' : Mem} (hM : ∀ g o c, M g o = some c -> M' g o = some c) {ρ : Rho} {σ : Sig} {c : Value} {a : AV} (h : Rd M ρ σ c a) :
  ∀ (ρ' : Rho) (σ' : Sig), (∀ b g, ρ b = some g -> ρ' b = some g) -> (∀ k s, σ k = some s -> σ' k = some s) -> Rd M' ρ' σ' c a := by
 induction h with
 | any => exact λ _ _ _ _ => .any
 | v => exact λ _ _ _ _ => .v
 | nil ha => exact λ _ _ _ _ => .nil ha
 | list cf hl hc hn hm ho hr ht ih => exact λ ρ' σ' h1 h2 => .list cf hl hc hn (λ i j hi hj => hM _ _ _ (hm i j hi hj)) ho (λ i j hi hj => ih i j hi hj JD jE (λ _ _ h => h) (λ _ _ h => h)) (ht.mono h2)
 | agg hl ho hr ih => exact λ ρ' σ' h1 h2 => .agg hl ho λ i h h' => ih i h h' ρ' σ' h1 h2
 | tup hl hr ih => exact λ ρ' σ' h1 h2 => .tup hl λ i h h' => ih i h h' ρ' σ' h1 h2
 | ptr h => exact λ ρ' σ' h1 h2 => .ptr (h1 _ _ h)
 | ref cf hm ho hr ih => exact λ ρ' σ' h1 h2 => .ref cf (λ j hj => hM _ _ _ (hm j hj)) ho (λ j hj => ih j hj JD jE (λ _ _ h => h) (λ _ _ h => h))
 | fn hl hr hl2 hr2 ih ih2 => exact λ ρ' σ' h1 h2 => .fn hl (λ i h h' => ih i h h' ρ' σ' h1 h2) hl2 (λ i h h' => ih2 i h h' ρ' σ' h1 h2)
 | vs h hl hc => exact λ ρ' σ' h1 h2 => .vs (h1 _ _ h) hl (hc.imp λ sp q => ⟨h2 _ _ q.1, q.2⟩)
 | ub => exact λ _ _ _ _ => .ub
 | mref h => exact λ _ _ h1 h2 => .mref (h1 _ _ h)
 | vsn => exact λ _ _ _ _ => .vsn
 | vse => exact λ _ _ _ _ => .vse
theorem Rd.up {M : Mem} {ρ ρ' : Rho} {σ σ' : Sig} {c : Value} {a : AV} (h : Rd M ρ σ c a) (hr : ∀ b g, ρ b = some g -> ρ' b = some g) (hs : ∀ k s, σ k = some s -> σ' k = some s) : Rd M ρ' σ' c a := h.mono (λ _ _ _ h => h) ρ' σ' hr hs
theorem Rd.of0 {M : Mem} {ρ' : Rho} {σ' : Sig} {c : Value} {a : AV} (h : Rd M JD jE c a) : Rd M ρ' σ' c a := h.up (λ _ _ h => by cases h) (λ _ _ h => by cases h)
def mp0 (f g : Nat -> Option Nat) : AV -> AV
 | .v x => .v x
 | .list n xs t => .list n xs (t.bind g)
 | .ref cs => .ref cs
 | .ub => .ub
 | .ptr b off => (match f b with | some b' => .ptr b' off | none => .any)
 | .vs b off len n => (match f b with | some b' => .vs b' off len n | none => .any)
 | .fn fn [] [] => .fn fn [] []
 | .mref b => (match f b with | some b' => .mref b' | none => .any)
 | .mp d xs => .mp d xs
 | _ => .any
def mp1 (f g : Nat -> Option Nat) : AV -> AV
 | .agg cs => .agg (cs.map (mp0 f g))
 | .fn fn as1 bs => .fn fn (as1.map (mp0 f g)) (bs.map (mp0 f g))
 | x => mp0 f g x
def mp2 (f g : Nat -> Option Nat) : AV -> AV
 | .tup cs => .tup (cs.map (mp1 f g))
 | x => mp1 f g x
def no1 : Nat -> Option Nat := λ _ => none
def dat0 : AV -> AV := mp0 no1 no1
def dat1 : AV -> AV
 | .agg cs => .agg (cs.map dat0)
 | x => dat0 x
def dat2 : AV -> AV
 | .tup cs => .tup (cs.map dat1)
 | x => dat1 x
theorem TokOk.none {σ : Sig} {g m b lo hi : Nat} : TokOk σ none g m b lo hi := λ _ h => by cases h
structure Ren (f g : Nat -> Option Nat) (ρ : Rho) (σ : Sig) (ρ' : Rho) (σ' : Sig) : Prop where
 box : ∀ b b' x, f b = some b' -> ρ b = some x -> ρ' b' = some x
 tok : ∀ t t' sp, g t = some t' -> σ t = some sp -> σ' t' = some sp
 cap : ∀ b b' sp, f b = some b' -> σ (vk b) = some sp -> σ' (vk b') = some sp
theorem Ren.no (ρ : Rho) (σ : Sig) (ρ' : Rho) (σ' : Sig) : Ren no1 no1 ρ σ ρ' σ' := ⟨λ _ _ _ h => (by cases h), λ _ _ _ h => (by cases h), λ _ _ _ h => by cases h⟩
theorem Rd.mp0 {M : Mem} {f g : Nat -> Option Nat} {ρ : Rho} {σ : Sig} {ρ' : Rho} {σ' : Sig} (R : Ren f g ρ σ ρ' σ') {c : Value} {a : AV} (h : Rd M ρ σ c a) : Rd M ρ' σ' c (mp0 f g a) := by
 cases h with
 | any => exact .any
 | v => exact .v
 | nil ha => exact .nil (ha.imp id λ e => by rw [e]; rfl)
 | list cf hl hc hn hm ho hr ht =>
  refine .list cf hl hc hn hm ho hr (λ k hk => ?_)
  obtain ⟨t, h1, h2⟩ := Option.bind_eq_some_iff.1 hk
  exact (ht t h1).imp id λ ⟨sp, q1, q2⟩ => ⟨sp, R.tok _ _ _ h2 q1, q2⟩
 | agg => exact .any
 | tup => exact .any
 | @ptr _ _ b off x hb =>
  cases hf : f b with
  | none => simp only [Go.Proofs.YthdgnfcbehcplaaGreatDoor.mp0, hf]; exact .any
  | some b' => simp only [Go.Proofs.YthdgnfcbehcplaaGreatDoor.mp0, hf]; exact .ptr (R.box _ _ _ hf hb)
 | ref cf hm ho hr => exact .ref cf hm ho hr
 | ub => exact .ub
 | @mref _ _ b x hb =>
  cases hf : f b with
  | none => simp only [Go.Proofs.YthdgnfcbehcplaaGreatDoor.mp0, hf]; exact .any
  | some b' => simp only [Go.Proofs.YthdgnfcbehcplaaGreatDoor.mp0, hf]; exact .mref (R.box _ _ _ hf hb)
 | @fn _ _ fn fs cs as1 bs hl hr hl2 hr2 =>
  cases as1 with
  | cons => exact .any
  | nil =>
   cases bs with
   | cons => exact .any
   | nil => exact .fn hl (λ i h h' => by cases h') hl2 (λ i h h' => by cases h')
 | @vs _ _ b x off len cap n hb hl hc =>
  cases hf : f b with
  | none => simp only [Go.Proofs.YthdgnfcbehcplaaGreatDoor.mp0, hf]; exact .any
  | some b' => simp only [Go.Proofs.YthdgnfcbehcplaaGreatDoor.mp0, hf]; exact .vs (R.box _ _ _ hf hb) hl (hc.imp λ sp q => ⟨R.cap _ _ _ hf q.1, q.2⟩)
 | @vsn _ _ b off n =>
  cases hf : f b with
  | none => simp only [Go.Proofs.YthdgnfcbehcplaaGreatDoor.mp0, hf]; exact .any
  | some b' => simp only [Go.Proofs.YthdgnfcbehcplaaGreatDoor.mp0, hf]; exact .vsn
 | @vse _ _ b x o off n =>
  cases hf : f b with
  | none => simp only [Go.Proofs.YthdgnfcbehcplaaGreatDoor.mp0, hf]; exact .any
  | some b' => simp only [Go.Proofs.YthdgnfcbehcplaaGreatDoor.mp0, hf]; exact .vse
theorem Rd.mp1 {M : Mem} {f g : Nat -> Option Nat} {ρ : Rho} {σ : Sig} {ρ' : Rho} {σ' : Sig} (R : Ren f g ρ σ ρ' σ') {c : Value} {a : AV} (h : Rd M ρ σ c a) : Rd M ρ' σ' c (mp1 f g a) := by
 have d := h.mp0 R
 cases h with
 | agg hl ho hr => exact .agg (by simpa using hl) ho λ i h h' => by simpa using (hr i h (by simpa using h')).mp0 R
 | fn hl hr hl2 hr2 => exact .fn (by simpa using hl) (λ i h h' => by simpa using (hr i h (by simpa using h')).mp0 R) (by simpa using hl2) (λ i h h' => by simpa using (hr2 i h (by simpa using h')).mp0 R)
 | _ => exact d
theorem Rd.mp2 {M : Mem} {f g : Nat -> Option Nat} {ρ : Rho} {σ : Sig} {ρ' : Rho} {σ' : Sig} (R : Ren f g ρ σ ρ' σ') {c : Value} {a : AV} (h : Rd M ρ σ c a) : Rd M ρ' σ' c (mp2 f g a) := by
 have d := h.mp1 R
 cases h with
 | tup hl hr => exact .tup (by simpa using hl) λ i h h' => by simpa using (hr i h (by simpa using h')).mp1 R
 | _ => exact d
theorem Rd.dat0 {M : Mem} {ρ : Rho} {σ : Sig} {c : Value} {a : AV} (h : Rd M ρ σ c a) : Rd M JD jE c (dat0 a) := h.mp0 (.no _ _ _ _)
theorem Rd.dat1 {M : Mem} {ρ : Rho} {σ : Sig} {c : Value} {a : AV} (h : Rd M ρ σ c a) : Rd M JD jE c (dat1 a) := by
 have d := h.dat0
 cases h with
 | agg hl ho hr => exact .agg (by simpa using hl) ho λ i h h' => by simpa using (hr i h (by simpa using h')).dat0
 | _ => exact d
theorem Rd.dat2 {M : Mem} {ρ : Rho} {σ : Sig} {c : Value} {a : AV} (h : Rd M ρ σ c a) : Rd M JD jE c (dat2 a) := by
 have d := h.dat1
 cases h with
 | tup hl hr => exact .tup (by simpa using hl) λ i h h' => by simpa using (hr i h (by simpa using h')).dat1
 | _ => exact d
structure AS where
 env : List AV
 box : List (Nat × Option (List AV))
 tok : List (Nat × Bool)
 nin : Nat
 fm : Option (Nat × Nat × Nat) := none
inductive Wr where
 | fm (f : Option (Nat × Nat × Nat))
 | env (t : Nat) (v : AV)
 | box (b : Nat) (cs : Option (List AV))
 | tok (t : Nat) (x : Bool)
def AS.ap (s : AS) : Wr -> AS
 | .env t v => { s with env := s.env.set t v }
 | .box b cs => { s with box := (b, cs) :: s.box }
 | .tok t x => { s with tok := (t, x) :: s.tok }
 | .fm f => { s with fm := f }
def AS.aps (s : AS) (l : List Wr) : AS := l.foldl AS.ap s
def AS.bx (s : AS) (b : Nat) : Option (List AV) := match s.box.lookup b with
 | some x => x
 | none => none
def Z8 (b : Nat) : Bool := match Nat.ble 1500000 b with
 | true => Nat.ble b 1999999
 | false => false
def AS.cx (s : AS) (b : Nat) : Option (List AV) := match Z8 b with
 | true => none
 | false => s.bx b
theorem AS.cx_some {s : AS} {b : Nat} {cs : List AV} (h : s.cx b = some cs) : s.bx b = some cs /\ Z8 b = false := by
 unfold AS.cx at h
 split at h
 ·cases h
 ·rename_i e; exact ⟨h, e⟩
def TOB : Nat := 64000000000000000
def zfA : Option (Nat × Nat × Nat) -> Nat -> Option Bool
 | none, _ => none
 | some (_, j, N), t => bif Nat.ble TOB t && !(Nat.ble (TOB + N) t) then some (Nat.ble (TOB + j) t) else none
def AS.tk (s : AS) (t : Nat) : Option Bool := match s.tok.lookup t with
 | some x => some x
 | none => zfA s.fm t
def AS.at (s : AS) (t : Nat) : AV := (s.env[t]?).getD .any
def nrm : Value -> AV
 | .agg cs => if cs.toList.all (·.oneCell') then .agg (cs.toList.map .v) else .v (.agg cs)
 | x => .v x
def AS.ev (s : AS) : Operand -> AV
 | .tmp t => s.at t
 | .const v => nrm v
 | .global g => (match glb g with | some cs => .ref (cs.map .v) | none => .any)
 | .func f => .fn (.func f) [] []
structure Base where
 w0 : World
 M0 : Mem
 opn : List (Option Nat)
 tgs : Nat -> Prop
 cap0 : Nat -> Option Spare
def At (w : World) (g : Nat) (ccs : Array Value) (t : TypeId) : Prop := ∃ z : Nat × Nat, w.heap[g]? = some (.cells ccs t z) /\ (ccs.size <= z.1 \/ z = (0, 0)) /\ ∀ i (h : i < ccs.size), (ccs[i]).oneCell' = true
def Row (w : World) (g n : Nat) : Prop := ∃ (ccs : Array Value) (t : TypeId), At w g ccs t /\ n <= ccs.size
def Hold0 (M : Mem) (ρ : Rho) (σ : Sig) (w : World) (g : Nat) (cs : List AV) : Prop := ∃ (ccs : Array Value) (t : TypeId), At w g ccs t /\ cs.length <= ccs.size /\ (∀ i (h : i < ccs.size), i < cs.length -> (ccs[i]).oneCell' = true) /\ ∀ i (h : i < ccs.size) (h' : i < cs.length), Rd M ρ σ ccs[i] cs[i]
def zpO : Kd -> Value -> Bool
 | .int k, .int k' _ => decide (k = k')
 | .str, .string _ => true
 | .bool, .bool _ => true
 | _, _ => false
def ZM : List Kd -> List Value -> Bool
 | [], [] => true
 | k :: ks, v :: vs => (match zpO k v with | true => ZM ks vs | false => false)
 | _, _ => false
def jU (ag : Bool) (cs : List Value) : Value := match ag with
 | true => .agg cs.toArray
 | false => (match cs with | [c] => c | _ => undef)
def zmZ (d : MK) (r : List Value) (e : MapEntry) : Prop := ∃ ck cv, r = ck ++ cv /\ ZM d.ks ck = true /\ ZM d.vs cv = true /\ e.key = jU d.aK ck /\ e.val = jU d.aV cv
inductive Rows (d : MK) : List (List Value) -> List MapEntry -> Prop
 | nil : Rows d [] []
 | cons {r : List Value} {e : MapEntry} {rs : List (List Value)} {es : List MapEntry} (h : zmZ d r e) (t : Rows d rs es) : Rows d (r :: rs) (e :: es)
def MapAt (w : World) (g : Nat) (d : MK) (xs : List (List AV)) : Prop := ∃ (es : Array MapEntry) (clock : Nat) (rows : List (List Value)), w.heap[g]? = some (.map es clock) /\ xs = rows.map (·.map AV.v) /\ Rows d rows es.toList
def Hold (b : Nat) (M : Mem) (ρ : Rho) (σ : Sig) (w : World) (g : Nat) (cs : List AV) : Prop := Hold0 M ρ σ w g cs \/ (Z8 b = true /\ ∃ d xs, cs = [.mp d xs] /\ MapAt w g d xs)
theorem Hold.cells {b : Nat} {M : Mem} {ρ : Rho} {σ : Sig} {w : World} {g : Nat} {cs : List AV} (h : Hold b M ρ σ w g cs) (hm : Z8 b = false) : Hold0 M ρ σ w g cs := h.elim id λ q => by rw [hm] at q; cases q.1
def zpd (M : Mem) (w : World) (opn : List (Option Nat)) (tgs : Nat -> Prop) : Prop := ∀ g cs, glb g = some cs -> (∀ j, (cs.getD j (.bool true)).oneCell' = true /\ (j < cs.length -> M g j = some (cs.getD j (.bool true)))) /\ (∃ (t : TypeId) (z : Nat × Nat), w.heap[g]? = some (.cells cs.toArray t z)) /\ some g ∉ opn /\ ¬ tgs g
def mkD (D : Nat) : Deferred := { target := .collected D, args := #[] }
def Marks (n : Nat) (ds : List Deferred) (w : World) : Prop := ∃ l : List Nat, ds = l.map mkD /\ l.Nodup /\ ∀ D ∈ l, n <= D /\ w.heap[D]? = some (.deferred (some []))
theorem Marks.keep {n : Nat} {ds : List Deferred} {w w' : World} (h : Marks n ds w) (hk : ∀ D, n <= D -> w.heap[D]? = some (.deferred (some [])) -> w'.heap[D]? = some (.deferred (some []))) : Marks n ds w' := by
 obtain ⟨l, h1, h2, h3⟩ := h
 exact ⟨l, h1, h2, λ D hD => ⟨(h3 D hD).1, hk D (h3 D hD).1 (h3 D hD).2⟩⟩
theorem Marks.nil (n : Nat) (w : World) : Marks n [] w := ⟨[], rfl, List.nodup_nil, λ D h => by cases h⟩
structure SimW (B : Base) (M : Mem) (ρ : Rho) (σ : Sig) (s : AS) (a : Act) (w : World) : Prop where
 len : a.tmps.size = s.env.length
 env : ∀ t, Rd M ρ σ (a.tmps.getD t undef) (s.at t)
 nin : s.nin = B.opn.length
 own : ∀ k, k < s.nin -> s.bx k ≠ none -> ρ k = (B.opn[k]?).getD none
 fresh : ∀ b g, s.nin <= b -> ρ b = some g -> B.w0.heap.size <= g
 defers : Marks B.w0.heap.size a.defers w
 mem : ∀ g o c, M g o = some c -> w.cell? ⟨g, o, none⟩ = some c
 memB : ∀ g o, g < B.w0.heap.size -> ¬ B.tgs g -> M g o = B.M0 g o
 memS : ∀ g o c, B.M0 g o = some c -> M g o = some c
 gl : zpd B.M0 B.w0 B.opn B.tgs
 os : w.os = B.w0.os
 tape : w.tape = B.w0.tape
 output : w.output = B.w0.output
 size : B.w0.heap.size <= w.heap.size
 block : ∀ k, k < B.w0.heap.size -> some k ∉ B.opn -> ¬ B.tgs k -> w.heap[k]? = B.w0.heap[k]?
 box : ∀ b cs, s.bx b = some cs -> (cs = [] /\ ρ b = none) \/ ∃ g, ρ b = some g /\ Hold b M ρ σ w g cs /\ (∀ o, M g o = none) /\ (B.w0.heap.size <= g \/ some g ∈ B.opn)
 rws : ∀ g n, Row B.w0 g n -> Row w g n
 rlt : ∀ b g, ρ b = some g -> g < w.heap.size
 rho : ∀ b g, ρ b = some g -> s.bx b ≠ none \/ s.tk (vk b) ≠ none
 inj : ∀ b b' g, s.bx b ≠ none -> s.bx b' ≠ none -> ρ b = some g -> ρ b' = some g -> b = b'
 tok : ∀ t sp, s.tk t = some true -> σ t = some sp -> (B.w0.heap.size <= sp.g \/ B.tgs sp.g) /\ sp.lo <= sp.hi /\ (∀ o, sp.lo <= o -> o < sp.hi -> M sp.g o = none) /\ (∀ b, s.bx b ≠ none -> ρ b ≠ some sp.g)
 cap : ∀ t sp, σ t = some sp -> Row w sp.g sp.hi
 sig : ∀ t sp, σ t = some sp -> s.tk t ≠ none
 capB : ∀ k, k < s.nin -> ∀ sp, σ (vk k) = some sp -> B.cap0 k = some sp
 nink : ∀ k, k < s.nin -> s.tk (vk k) ≠ none
 tinj : ∀ t t' sp sp', s.tk t = some true -> s.tk t' = some true -> σ t = some sp -> σ t' = some sp' -> sp.g = sp'.g -> t = t'
def Sim (B : Base) (s : AS) (a : Act) (w : World) : Prop := ∃ M ρ σ, SimW B M ρ σ s a w
theorem Rd.nrm {M : Mem} {ρ : Rho} {σ : Sig} (c : Value) : Rd M ρ σ c (nrm c) := by
 unfold Go.Proofs.YthdgnfcbehcplaaGreatDoor.nrm
 split
 ·rename_i cs
  split
  ·rename_i h
   refine .agg (by simp) (λ i hi => ?_) (λ i hi hi' => ?_)
   ·exact List.all_eq_true.1 h _ (by simp)
   ·simp only [List.getElem_map, Array.getElem_toList]; exact .v
  ·exact .v
 ·exact .v
theorem SimW.ev {B : Base} {M : Mem} {ρ : Rho} {σ : Sig} {s : AS} {a : Act} {w : World} (h : SimW B M ρ σ s a w) (x : Operand) : Rd M ρ σ (a.eval x) (s.ev x) := by
 cases x with
 | tmp t => exact h.env t
 | const c => exact Rd.nrm c
 | global g =>
  show Rd M ρ σ (.pointer (some ⟨g, 0, none⟩)) (match glb g with | some cs => .ref (cs.map .v) | none => .any)
  cases hg : glb g with
  | none => exact .any
  | some cs =>
   refine .ref (λ j => cs.getD j (.bool true)) (λ j hj => ?_) (λ j => ((h.gl g cs hg).1 j).1) (λ j hj => ?_)
   ·rw [Nat.zero_add]
    exact h.memS _ _ _ (((h.gl g cs hg).1 j).2 (by simpa using hj))
   ·have hj' : j < cs.length := by simpa using hj
    simp only [List.getElem_map, List.getD_eq_getElem?_getD, List.getElem?_eq_getElem hj', Option.getD_some]
    exact .v
 | func f => exact .fn rfl (λ i h h' => by cases h') rfl (λ i h h' => by cases h')
theorem zht {α : Type} (l : List α) (i j : Nat) (v d : α) : ((l.set i v)[j]?).getD d = if j = i /\ i < l.length then v else (l[j]?).getD d := by
 rw [List.getElem?_set]
 by_cases h : i = j
 ·subst h
  by_cases h2 : i < l.length
  ·simp [h2]
  ·simp [h2]
 ·have h3 : ¬ j = i := λ e => h e.symm
  simp [h, h3]
theorem AS.at_set (s : AS) (t t' : Nat) (v : AV) : (s.ap (.env t v)).at t' = if t' = t /\ t < s.env.length then v else s.at t' := by
 unfold AS.ap AS.at
 exact zht _ _ _ _ _
theorem SimW.put {B : Base} {M : Mem} {ρ : Rho} {σ : Sig} {s : AS} {a : Act} {w : World} (h : SimW B M ρ σ s a w) {c : Value} {v : AV} (hr : Rd M ρ σ c v) (d : Nat) : SimW B M ρ σ (s.ap (.env d v)) (a.put (some d) c) w :=
 { h with
  len := by simp [AS.ap, Act.put, h.len]
  env := λ t => by
   rw [AS.at_set]
   have e : (a.put (some d) c).tmps.getD t undef = if t = d /\ d < a.tmps.size then c else a.tmps.getD t undef := by
    simp only [Act.put, Array.getD_eq_getD_getElem?, Array.getElem?_setIfInBounds]
    by_cases h1 : d = t
    ·subst h1
     by_cases h2 : d < a.tmps.size
     ·simp [h2]
     ·simp [h2]
    ·have h3 : ¬ t = d := λ e => h1 e.symm
     simp [h1, h3]
   rw [e, h.len]
   by_cases h1 : t = d /\ d < s.env.length
   ·rw [if_pos h1, if_pos h1]; exact hr
   ·rw [if_neg h1, if_neg h1]; exact h.env t }
end
section
open Go.RowKit
def zam (ρ : Rho) (d g : Nat) : Rho := λ b => if b = d then some g else ρ b
def jd (σ : Sig) (d : Nat) (sp : Spare) : Sig := λ b => if b = d then some sp else σ b
def za6 (M : Mem) (g lo : Nat) (vs : List Value) : Mem := λ g' o => if g' = g /\ lo <= o /\ o < lo + vs.length then vs[o - lo]? else M g' o
def splice {α : Type} (cs : List α) (off : Nat) : List α -> List α
 | [] => cs
 | v :: r => splice (cs.set off v) (off + 1) r
theorem zB {α : Type} : ∀ (new cs : List α) (off : Nat), (splice cs off new).length = cs.length
 | [], _, _ => rfl
 | v :: r, cs, off => by unfold splice; rw [zB r]; simp
theorem jC {α : Type} : ∀ (new cs : List α) (off : Nat), off + new.length <= cs.length -> ∀ j,
  (splice cs off new)[j]? = if off <= j /\ j < off + new.length then new[j - off]? else cs[j]?
 | [], cs, off, _, j => by
   have n1 : ¬ (off <= j /\ j < off + ([] : List α).length) := by simp
   rw [if_neg n1]; rfl
 | v :: r, cs, off, h, j => by
  simp only [List.length_cons] at h
  unfold splice
  rw [jC r (cs.set off v) (off + 1) (by simp; omega) j]
  by_cases hj : off + 1 <= j /\ j < off + 1 + r.length
  ·have n1 : off <= j /\ j < off + (v :: r).length := by simp only [List.length_cons]; omega
   rw [if_pos hj, if_pos n1, show j - off = (j - (off + 1)) + 1 by omega]
   rfl
  ·rw [if_neg hj, List.getElem?_set]
   by_cases ho : off = j
   ·subst ho
    have n1 : off <= off /\ off < off + (v :: r).length := by simp only [List.length_cons]; omega
    rw [if_pos rfl, if_pos n1, Nat.sub_self, if_pos (by omega)]
    rfl
   ·have n1 : ¬ (off <= j /\ j < off + (v :: r).length) := by simp only [List.length_cons]; omega
    rw [if_neg ho, if_neg n1]
theorem znF {w : World} {g : Nat} {o : Obj} (h : w.heap[g]? = some o) : g < w.heap.size := (Array.getElem?_eq_some_iff.1 h).1
theorem zaP {w : World} {g o : Nat} {c : Value} (h : w.cell? ⟨g, o, none⟩ = some c) : g < w.heap.size := by
 unfold World.cell? at h
 cases hg : w.heap[g]? with
 | none => simp [hg] at h
 | some x => exact znF hg
theorem zgi {w : World} {g : Nat} {cs : Array Value} {t : TypeId} {fr : Nat × Nat} (i : Nat) (v : Value) (hg : w.heap[g]? = some (.cells cs t fr)) :
  (w.setCell ⟨g, i, none⟩ v).heap[g]? = some (.cells (cs.setIfInBounds i v) t fr) := by
 simp [World.setCell, Array.getElem?_modify, hg]
theorem zbm (g : Nat) (t : TypeId) (fr : Nat × Nat) : ∀ (vs : List Value) (o : Nat) (w : World) (cs : Array Value), w.heap[g]? = some (.cells cs t fr) -> o + vs.length <= cs.size ->
  ∃ cs' : Array Value, (w.setCells g o vs).heap[g]? = some (.cells cs' t fr) /\ cs'.size = cs.size /\ ∀ j, cs'[j]? = if o <= j /\ j < o + vs.length then vs[j - o]? else cs[j]?
 | [], o, w, cs, h, _ => ⟨cs, h, rfl, λ j => by
   have n1 : ¬ (o <= j /\ j < o + ([] : List Value).length) := by simp
   rw [if_neg n1]⟩
 | v :: r, o, w, cs, h, hl => by
  simp only [List.length_cons] at hl
  obtain ⟨cs', h1, h2, h3⟩ := zbm g t fr r (o + 1) (w.setCell ⟨g, o, none⟩ v) (cs.setIfInBounds o v) (zgi o v h) (by simp; omega)
  refine ⟨cs', h1, by simpa using h2, λ j => ?_⟩
  rw [h3 j]
  by_cases hj : o + 1 <= j /\ j < o + 1 + r.length
  ·have n1 : o <= j /\ j < o + (v :: r).length := by simp only [List.length_cons]; omega
   rw [if_pos hj, if_pos n1, show j - o = (j - (o + 1)) + 1 by omega]
   rfl
  ·rw [if_neg hj, Array.getElem?_setIfInBounds]
   by_cases ho : o = j
   ·subst ho
    have n1 : o <= o /\ o < o + (v :: r).length := by simp only [List.length_cons]; omega
    rw [if_pos rfl, if_pos n1, Nat.sub_self, if_pos (by omega)]
    rfl
   ·have n1 : ¬ (o <= j /\ j < o + (v :: r).length) := by simp only [List.length_cons]; omega
    rw [if_neg ho, if_neg n1]
theorem Zo (g : Nat) : ∀ (vs : List Value) (o : Nat) (w : World) (k : Nat), k ≠ g -> (w.setCells g o vs).heap[k]? = w.heap[k]?
 | [], _, _, _, _ => rfl
 | v :: r, o, w, k, h => by
  show ((w.setCell ⟨g, o, none⟩ v).setCells g (o + 1) r).heap[k]? = _
  rw [Zo g r (o + 1) _ k h, Below.heap_setCell _ _ _ _ h]
theorem ZE (g : Nat) : ∀ (vs : List Value) (o : Nat) (w : World), (w.setCells g o vs).os = w.os /\ (w.setCells g o vs).tape = w.tape /\ (w.setCells g o vs).output = w.output /\ (w.setCells g o vs).heap.size = w.heap.size
 | [], _, _ => ⟨rfl, rfl, rfl, rfl⟩
 | v :: r, o, w => by
  obtain ⟨h1, h2, h3, h4⟩ := ZE g r (o + 1) (w.setCell ⟨g, o, none⟩ v)
  exact ⟨h1, h2, h3, h4.trans (by simp [World.setCell])⟩
theorem zR {w w' : World} {g : Nat} (h : w'.heap[g]? = w.heap[g]?) (o : Nat) : w'.cell? ⟨g, o, none⟩ = w.cell? ⟨g, o, none⟩ := World.cell?_of_block (w := w) h
theorem zY {w : World} {g o : Nat} {cs : Array Value} {t : TypeId} (h : At w g cs t) : w.cell? ⟨g, o, none⟩ = cs[o]? := by
 obtain ⟨z, h, -⟩ := h
 simp [World.cell?, h]
theorem At.lt {w : World} {g : Nat} {cs : Array Value} {t : TypeId} (h : At w g cs t) : g < w.heap.size := by
 obtain ⟨z, h, -⟩ := h
 exact znF h
theorem At.uniq {w : World} {g : Nat} {c1 c2 : Array Value} {t1 t2 : TypeId} (h1 : At w g c1 t1) (h2 : At w g c2 t2) : c1 = c2 /\ t1 = t2 := by
 obtain ⟨z1, h1, -⟩ := h1
 obtain ⟨z2, h2, -⟩ := h2
 rw [h1] at h2
 cases h2
 exact ⟨rfl, rfl⟩
theorem At.of_heap {w w' : World} {g : Nat} {cs : Array Value} {t : TypeId} (h : At w g cs t) (e : w'.heap[g]? = w.heap[g]?) : At w' g cs t := by
 obtain ⟨z, h, hz⟩ := h
 exact ⟨z, by rw [e]; exact h, hz⟩
theorem At.new (w : World) (ccs : Array Value) (t : TypeId) (h1 : ∀ i (h : i < ccs.size), (ccs[i]).oneCell' = true) : At (w.alloc (.cells ccs t)) w.heap.size ccs t := ⟨_, heap_alloc_new w _, .inr rfl, h1⟩
theorem At.one {w : World} {g : Nat} {ccs : Array Value} {t : TypeId} (h : At w g ccs t) : ∀ i (h : i < ccs.size), (ccs[i]).oneCell' = true := by
 obtain ⟨z, -, -, h⟩ := h
 exact h
theorem At.frz {w : World} {g o : Nat} {ccs : Array Value} {ty : TypeId} (h : At w g ccs ty) (ho : o < ccs.size) : w.frozen? ⟨g, o, none⟩ = false := by
 obtain ⟨⟨z1, z2⟩, h, hz, -⟩ := h
 simp only [World.frozen?, h]
 rcases hz with q | q
 ·have : ¬ z1 <= o := by dsimp only at q; omega
  simp [this]
 ·cases q; simp
theorem jH (g : Nat) (t : TypeId) (vs : List Value) (o : Nat) (w : World) (cs : Array Value) (h : At w g cs t) (hl : o + vs.length <= cs.size) (hv : ∀ i (h : i < vs.length), (vs[i]).oneCell' = true) :
  ∃ cs' : Array Value, At (w.setCells g o vs) g cs' t /\ cs'.size = cs.size /\ ∀ j, cs'[j]? = if o <= j /\ j < o + vs.length then vs[j - o]? else cs[j]? := by
 obtain ⟨z, h, hz, ho⟩ := h
 obtain ⟨cs', h1, h2, h3⟩ := zbm g t z vs o w cs h hl
 refine ⟨cs', ⟨z, h1, by rw [h2]; exact hz, λ i hi => ?_⟩, h2, h3⟩
 have e := h3 i
 rw [Array.getElem?_eq_getElem hi] at e
 split at e
 ·rename_i c
  rw [List.getElem?_eq_getElem (by omega)] at e
  rw [Option.some.inj e]
  exact hv _ _
 ·rw [Array.getElem?_eq_getElem (by omega)] at e
  rw [Option.some.inj e]
  exact ho _ _
theorem AS.bx_set (s : AS) (b b' : Nat) (cs : Option (List AV)) : (s.ap (.box b cs)).bx b' = if b' = b then cs else s.bx b' := by
 unfold AS.ap AS.bx
 simp only [List.lookup_cons]
 by_cases h : b' = b
 ·subst h; simp
 ·have e : (b' == b) = false := by simp [h]
  rw [e, if_neg h]
theorem AS.tk_set (s : AS) (t t' : Nat) (x : Bool) : (s.ap (.tok t x)).tk t' = if t' = t then some x else s.tk t' := by
 unfold AS.ap AS.tk
 simp only [List.lookup_cons]
 by_cases h : t' = t
 ·subst h; simp
 ·have e : (t' == t) = false := by simp [h]
  rw [e, if_neg h]
theorem AS.tk_nofm {s : AS} (h : s.fm = none) (t : Nat) : s.tk t = s.tok.lookup t := by
 unfold AS.tk
 rw [h]
 cases s.tok.lookup t <;> rfl
theorem Row.of_heap {w w' : World} {g n : Nat} (h : Row w g n) (e : w'.heap[g]? = w.heap[g]?) : Row w' g n := by
 obtain ⟨ccs, t, h1, h2⟩ := h
 exact ⟨ccs, t, h1.of_heap e, h2⟩
theorem Row.lt {w : World} {g n : Nat} (h : Row w g n) : g < w.heap.size := by
 obtain ⟨ccs, t, h1, -⟩ := h
 exact h1.lt
theorem Hold0.of_heap {M M' : Mem} {ρ ρ' : Rho} {σ σ' : Sig} {w w' : World} {g : Nat} {cs : List AV} (h : Hold0 M ρ σ w g cs) (e : w'.heap[g]? = w.heap[g]?) (up : ∀ c v, Rd M ρ σ c v -> Rd M' ρ' σ' c v) : Hold0 M' ρ' σ' w' g cs := by
 obtain ⟨ccs, t, h1, h2, h3, h4⟩ := h
 exact ⟨ccs, t, h1.of_heap e, h2, h3, λ i x y => up _ _ (h4 i x y)⟩
theorem Hold0.lt {M : Mem} {ρ : Rho} {σ : Sig} {w : World} {g : Nat} {cs : List AV} (h : Hold0 M ρ σ w g cs) : g < w.heap.size := by
 obtain ⟨ccs, t, h1, -⟩ := h
 exact h1.lt
theorem MapAt.of_heap {w w' : World} {g : Nat} {d : MK} {xs : List (List AV)} (h : MapAt w g d xs) (e : w'.heap[g]? = w.heap[g]?) : MapAt w' g d xs := by
 obtain ⟨es, c, rows, h1, h2⟩ := h
 exact ⟨es, c, rows, e.trans h1, h2⟩
theorem MapAt.lt {w : World} {g : Nat} {d : MK} {xs : List (List AV)} (h : MapAt w g d xs) : g < w.heap.size := by
 obtain ⟨es, c, rows, h1, -⟩ := h
 exact (Array.getElem?_eq_some_iff.1 h1).1
theorem MapAt.no {w : World} {g : Nat} {d : MK} {xs : List (List AV)} (h : MapAt w g d xs) {ccs : Array Value} {t : TypeId} (r : At w g ccs t) : False := by
 obtain ⟨es, c, rows, h1, -⟩ := h
 obtain ⟨z, r1, -⟩ := r
 rw [r1] at h1
 cases h1
theorem Hold.of_heap {b : Nat} {M M' : Mem} {ρ ρ' : Rho} {σ σ' : Sig} {w w' : World} {g : Nat} {cs : List AV} (h : Hold b M ρ σ w g cs) (e : w'.heap[g]? = w.heap[g]?) (up : ∀ c v, Rd M ρ σ c v -> Rd M' ρ' σ' c v) : Hold b M' ρ' σ' w' g cs :=
 h.imp (λ q => q.of_heap e up) λ ⟨q, d, xs, e1, m⟩ => ⟨q, d, xs, e1, m.of_heap e⟩
theorem Hold.lt {b : Nat} {M : Mem} {ρ : Rho} {σ : Sig} {w : World} {g : Nat} {cs : List AV} (h : Hold b M ρ σ w g cs) : g < w.heap.size :=
 h.elim (λ q => q.lt) λ ⟨_, _, _, _, m⟩ => m.lt
theorem Hold.row {b : Nat} {M : Mem} {ρ : Rho} {σ : Sig} {w : World} {g n : Nat} {cs : List AV} (h : Hold b M ρ σ w g cs) (r : Row w g n) : Hold0 M ρ σ w g cs :=
 h.elim id λ ⟨_, _, _, _, m⟩ => (let ⟨_, _, q, _⟩ := r; (m.no q).elim)
section
variable {B : Base} {M : Mem} {ρ : Rho} {σ : Sig} {s : AS} {a : Act} {w : World}
theorem Z0 {w : World} {g : Nat} {o : Obj} (h : w.heap[g]? = some o) : g < w.heap.size := (Array.getElem?_eq_some_iff.1 h).1
theorem ja {w : World} {D g : Nat} {x : Option (List Deferred)} {ccs : Array Value} {ty : TypeId} (hd : w.heap[D]? = some (.deferred x)) (h : At w g ccs ty) : D ≠ g := λ e => by
 subst e
 obtain ⟨z, h1, -⟩ := h
 rw [hd] at h1; cases h1
theorem zgo {w : World} {D g n : Nat} {x : Option (List Deferred)} (hd : w.heap[D]? = some (.deferred x)) (h : Row w g n) : D ≠ g := by
 obtain ⟨ccs, t, h1, -⟩ := h
 exact ja hd h1
theorem SimW.free (h : SimW B M ρ σ s a w) {g : Nat} (hg : w.heap.size <= g) (o : Nat) : M g o = none := by
 cases hm : M g o with
 | none => rfl
 | some c => have := zaP (h.mem g o c hm); omega
theorem SimW.drew (h : SimW B M ρ σ s a w) : SimW B M ρ σ s a w.drew :=
 { h with defers := h.defers, mem := h.mem, os := h.os, tape := h.tape, output := h.output, size := h.size, block := h.block, box := h.box, rws := h.rws, rlt := h.rlt, cap := h.cap }
theorem Jy {M : Mem} {g lo : Nat} {vs : List Value} (h : ∀ o, lo <= o -> o < lo + vs.length -> M g o = none) (g' o : Nat) (c : Value) (hm : M g' o = some c) : za6 M g lo vs g' o = some c := by
 unfold za6
 split
 ·rename_i hc
  obtain ⟨rfl, h1, h2⟩ := hc
  rw [h o h1 h2] at hm
  cases hm
 ·exact hm
theorem SimW.rnone (h : SimW B M ρ σ s a w) {d : Nat} (hb : s.bx d = none) (ht : s.tk (vk d) = none) : ρ d = none := by
 cases hq : ρ d with
 | none => rfl
 | some g => exact absurd (h.rho d g hq) (by simp [hb, ht])
theorem SimW.snone (h : SimW B M ρ σ s a w) {d : Nat} (hu : s.tk d = none) : σ d = none := by
 cases hq : σ d with
 | none => rfl
 | some sp => exact absurd hu (h.sig d sp hq)
theorem zvB {ρ : Rho} {d g : Nat} (hrd : ρ d = none) (b g' : Nat) (hb : ρ b = some g') : zam ρ d g b = some g' := by
 unfold zam; split
 ·rename_i e; subst e; rw [hrd] at hb; cases hb
 ·exact hb
theorem zc9 {σ : Sig} {d : Nat} {sp : Spare} (hsd : σ d = none) (k : Nat) (sp' : Spare) (hk : σ k = some sp') : jd σ d sp k = some sp' := by
 unfold jd; split
 ·rename_i e; subst e; rw [hsd] at hk; cases hk
 ·exact hk
theorem j9 {s : AS} {b : Nat} {cs : List AV} (h : s.bx b = some cs) : s.bx b ≠ none := by rw [h]; simp
theorem SimW.adopt (h : SimW B M ρ σ s a w) (d : Nat) (hni : s.nin <= d) (hb : s.bx d = none) (ht : s.tk (vk d) = none) (g : Nat) (cs : List AV) (hh : Hold d M ρ σ w g cs) (hn : ∀ o, M g o = none) (hbase : B.w0.heap.size <= g) (hr : ∀ b, s.bx b ≠ none -> ρ b ≠ some g) (htk : ∀ t sp, s.tk t = some true -> σ t = some sp -> sp.g ≠ g) :
  SimW B M (zam ρ d g) σ (s.ap (.box d (some cs))) a w := by
 have hrd := h.rnone hb ht
 have up := zvB (g := g) hrd
 have upR : ∀ c v, Rd M ρ σ c v -> Rd M (zam ρ d g) σ c v := λ c v hr' => hr'.up up λ _ _ h => h
 refine { h with own := λ k hk hbk => ?_, fresh := λ b g' hn' hr' => ?_, env := λ t => upR _ _ (h.env t), box := λ b cs' hb' => ?_, rlt := λ b g' hr' => ?_, rho := λ b g' hr' => ?_, inj := λ b b' g' h1 h2 h3 h4 => ?_, tok := λ t sp h1 h2 => ?_ }
 ·have hk' : k < s.nin := hk
  rw [AS.bx_set, if_neg (by omega)] at hbk
  unfold zam
  rw [if_neg (by omega)]
  exact h.own k hk' hbk
 ·unfold zam at hr'
  split at hr'
  ·cases hr'; exact hbase
  ·exact h.fresh b g' hn' hr'
 ·rw [AS.bx_set] at hb'
  by_cases hbd : b = d
  ·subst hbd
   rw [if_pos rfl] at hb'
   cases hb'
   exact .inr ⟨g, by simp [zam], hh.of_heap rfl upR, hn, .inl hbase⟩
  ·rw [if_neg hbd] at hb'
   rcases h.box b cs' hb' with ⟨e1, e2⟩ | ⟨g', q1, q2, q3, q4⟩
   ·exact .inl ⟨e1, by unfold zam; rw [if_neg hbd]; exact e2⟩
   ·exact .inr ⟨g', up b g' q1, q2.of_heap rfl upR, q3, q4⟩
 ·unfold zam at hr'
  split at hr'
  ·cases hr'; exact hh.lt
  ·exact h.rlt b g' hr'
 ·rw [AS.bx_set]
  unfold zam at hr'
  split at hr'
  ·rename_i e; rw [if_pos e]; simp
  ·rename_i e; rw [if_neg e]; exact h.rho b g' hr'
 ·rw [AS.bx_set] at h1 h2
  unfold zam at h3 h4
  by_cases e1 : b = d
  ·by_cases e2 : b' = d
   ·rw [e1, e2]
   ·rw [if_pos e1] at h3
    rw [if_neg e2] at h4 h2
    cases h3
    exact absurd h4 (hr _ h2)
  ·rw [if_neg e1] at h3 h1
   by_cases e2 : b' = d
   ·rw [if_pos e2] at h4
    cases h4
    exact absurd h3 (hr _ h1)
   ·rw [if_neg e2] at h4 h2
    exact h.inj b b' g' h1 h2 h3 h4
 ·obtain ⟨q1, q2, q3, q4⟩ := h.tok t sp h1 h2
  refine ⟨q1, q2, q3, λ b hbb e => ?_⟩
  rw [AS.bx_set] at hbb
  unfold zam at e
  split at e
  ·exact htk t sp h1 h2 (Option.some.inj e).symm
  ·rename_i hne; rw [if_neg hne] at hbb; exact q4 b hbb e
theorem SimW.ghost (h : SimW B M ρ σ s a w) (d : Nat) (hni : s.nin <= d) (hb : s.bx d = none) (ht : s.tk (vk d) = none) : SimW B M ρ σ (s.ap (.box d (some []))) a w := by
 have hrd := h.rnone hb ht
 refine { h with own := λ k hk hbk => ?_, box := λ b cs' hb' => ?_, rho := λ b g' hr' => ?_, inj := λ b b' g' h1 h2 h3 h4 => ?_, tok := λ t sp h1 h2 => ?_ }
 ·have hk' : k < s.nin := hk
  rw [AS.bx_set, if_neg (by omega)] at hbk
  exact h.own k hk' hbk
 ·rw [AS.bx_set] at hb'
  by_cases hbd : b = d
  ·subst hbd
   rw [if_pos rfl] at hb'
   cases hb'
   exact .inl ⟨rfl, hrd⟩
  ·rw [if_neg hbd] at hb'
   exact h.box b cs' hb'
 ·rw [AS.bx_set]
  by_cases e : b = d
  ·subst e; rw [hrd] at hr'; cases hr'
  ·rw [if_neg e]; exact h.rho b g' hr'
 ·rw [AS.bx_set] at h1 h2
  by_cases e1 : b = d
  ·subst e1; rw [hrd] at h3; cases h3
  ·by_cases e2 : b' = d
   ·subst e2; rw [hrd] at h4; cases h4
   ·rw [if_neg e1] at h1; rw [if_neg e2] at h2; exact h.inj b b' g' h1 h2 h3 h4
 ·obtain ⟨q1, q2, q3, q4⟩ := h.tok t sp h1 h2
  refine ⟨q1, q2, q3, λ b hbb e => ?_⟩
  rw [AS.bx_set] at hbb
  by_cases hbd : b = d
  ·subst hbd; rw [hrd] at e; cases e
  ·rw [if_neg hbd] at hbb; exact q4 b hbb e
theorem SimW.drop (h : SimW B M ρ σ s a w) (d : Nat) (ht : s.tk (vk d) ≠ none) : SimW B M ρ σ (s.ap (.box d none)) a w := by
 have hne : ∀ b, (s.ap (.box d none)).bx b ≠ none -> b ≠ d /\ s.bx b ≠ none := λ b hb => by
  rw [AS.bx_set] at hb
  by_cases e : b = d
  ·rw [if_pos e] at hb; exact absurd rfl hb
  ·rw [if_neg e] at hb; exact ⟨e, hb⟩
 refine { h with own := λ k hk hbk => h.own k hk (hne k hbk).2, box := λ b cs' hb' => ?_, rho := λ b g' hr' => ?_, inj := λ b b' g' h1 h2 h3 h4 => h.inj b b' g' (hne b h1).2 (hne b' h2).2 h3 h4, tok := λ t sp h1 h2 => ?_ }
 ·have := hne b (j9 hb')
  rw [AS.bx_set, if_neg this.1] at hb'
  exact h.box b cs' hb'
 ·by_cases e : b = d
  ·subst e; exact .inr ht
  ·rw [AS.bx_set, if_neg e]; exact h.rho b g' hr'
 ·obtain ⟨q1, q2, q3, q4⟩ := h.tok t sp h1 h2
  exact ⟨q1, q2, q3, λ b hbb => q4 b (hne b hbb).2⟩
theorem SimW.alloc (h : SimW B M ρ σ s a w) (o : Obj) : SimW B M ρ σ s a (w.alloc o) := by
 have old : ∀ k, k < w.heap.size -> (w.alloc o).heap[k]? = w.heap[k]? := λ k hk => Below.heap_alloc w _ k hk
 have hs : w.heap.size <= (w.alloc o).heap.size := by simp
 have h_rws : ∀ g n, Row B.w0 g n -> Row (w.alloc o) g n := λ g n hr => by
  have := h.rws g n hr
  exact this.of_heap (old _ this.lt)
 refine { h with defers := h.defers.keep λ D _ hd => (old D (Z0 hd)).trans hd, mem := λ g o c hm => ?_, size := Nat.le_trans h.size hs, block := λ k h1 h2 h3 => ?_, box := λ b cs' hb => ?_, rws := h_rws, rlt := λ b g hr => Nat.lt_of_lt_of_le (h.rlt b g hr) hs, cap := λ t sp hs' => ?_ }
 ·rw [zR (old g (zaP (h.mem g o c hm)))]; exact h.mem g o c hm
 ·rw [old k (Nat.lt_of_lt_of_le h1 h.size)]; exact h.block k h1 h2 h3
 ·rcases h.box b cs' hb with e | ⟨g, q1, q2, q3, q4⟩
  ·exact .inl e
  ·exact .inr ⟨g, q1, q2.of_heap (old g q2.lt) λ _ _ h => h, q3, q4⟩
 ·have := h.cap t sp hs'
  exact this.of_heap (old _ this.lt)
structure Turn (n : Nat) (s : AS) (w w' : World) (row : Option Nat) : Prop where
 os : w'.os = w.os
 tape : w'.tape = w.tape
 output : w'.output = w.output
 size : w.heap.size <= w'.heap.size
 block : ∀ k, k < w.heap.size -> some k ≠ row -> w'.heap[k]? = w.heap[k]?
 row : ∀ r, row = some r -> n <= r /\ (∀ m, ¬ Row w r m) /\ (∀ o, w.cell? ⟨r, o, none⟩ = none) /\ ((∀ es c, w.heap[r]? ≠ some (.map es c)) \/ ∀ b, s.bx b ≠ none -> Z8 b = false)
theorem SimW.turn (h : SimW B M ρ σ s a w) {w' : World} {row : Option Nat} (T : Turn B.w0.heap.size s w w' row) {ds : List Deferred} (hm : Marks B.w0.heap.size ds w') : SimW B M ρ σ s { a with defers := ds } w' := by
 have cellold : ∀ g o c, w.cell? ⟨g, o, none⟩ = some c -> w'.cell? ⟨g, o, none⟩ = some c := λ g o c hc => by
  have hlt : g < w.heap.size := zaP hc
  have hne : some g ≠ row := λ e => by
   obtain ⟨-, -, q, -⟩ := T.row g e.symm
   rw [q o] at hc; cases hc
  rw [zR (T.block g hlt hne)]; exact hc
 have rowold : ∀ g n, Row w g n -> Row w' g n := λ g n hr => by
  have hne : some g ≠ row := λ e => (T.row g e.symm).2.1 n hr
  exact hr.of_heap (T.block g hr.lt hne)
 refine { h with defers := hm, mem := λ g o c hc => cellold g o c (h.mem g o c hc), os := T.os.trans h.os, tape := T.tape.trans h.tape, output := T.output.trans h.output, size := Nat.le_trans h.size T.size, block := λ k h1 h2 h3 => ?_, box := λ b cs' hb => ?_, rws := λ g n hr => rowold g n (h.rws g n hr), rlt := λ b g hr => Nat.lt_of_lt_of_le (h.rlt b g hr) T.size, cap := λ t sp hs' => rowold _ _ (h.cap t sp hs') }
 ·rw [T.block k (Nat.lt_of_lt_of_le h1 h.size) (λ e => by have := (T.row k e.symm).1; omega)]; exact h.block k h1 h2 h3
 ·rcases h.box b cs' hb with e | ⟨g, q1, q2, q3, q4⟩
  ·exact .inl e
  ·refine .inr ⟨g, q1, q2.of_heap (T.block g q2.lt (λ e => ?_)) (λ _ _ h => h), q3, q4⟩
   obtain ⟨-, r1, -, r2⟩ := T.row g e.symm
   rcases q2 with ⟨ccs, t, p1, -⟩ | ⟨p1, d, xs, p2, es, c, rows, p3, -⟩
   ·exact r1 0 ⟨ccs, t, p1, Nat.zero_le _⟩
   ·rcases r2 with r2 | r2
    ·exact r2 _ _ p3
    ·have := r2 b (j9 hb); rw [p1] at this; cases this
theorem SimW.mark (h : SimW B M ρ σ s a w) (t : Nat) (ht : s.tk t = none) : SimW B M ρ σ (s.ap (.tok t false)) a w := by
 have e : ∀ t', (s.ap (.tok t false)).tk t' = if t' = t then some false else s.tk t' := λ t' => AS.tk_set s t t' false
 have ne : ∀ t', (s.ap (.tok t false)).tk t' = some true -> s.tk t' = some true := λ t' h' => by
  rw [e] at h'
  split at h'
  ·cases h'
  ·exact h'
 have h_nink : ∀ k, k < s.nin -> (s.ap (.tok t false)).tk (vk k) ≠ none := λ k hk => by
  rw [e]
  split
  ·simp
  ·exact h.nink k hk
 refine { h with nink := h_nink, rho := λ b g hr => ?_, tok := λ t' sp h1 h2 => h.tok t' sp (ne t' h1) h2, sig := λ t' sp hs => ?_, tinj := λ t1 t2 sp sp' h1 h2 => h.tinj t1 t2 sp sp' (ne _ h1) (ne _ h2) }
 ·rcases h.rho b g hr with q | q
  ·exact .inl q
  ·refine .inr ?_
   rw [e]
   split
   ·simp
   ·exact q
 ·rw [e]
  split
  ·simp
  ·exact h.sig t' sp hs
theorem SimW.setcap (h : SimW B M ρ σ s a w) (t : Nat) (ht : s.tk t = none) (sp : Spare) (hr : Row w sp.g sp.hi) : SimW B M ρ (jd σ t sp) (s.ap (.tok t false)) a w := by
 have h' := h.mark t ht
 have hst := h.snone ht
 have ups := zc9 (sp := sp) hst
 have upR : ∀ c v, Rd M ρ σ c v -> Rd M ρ (jd σ t sp) c v := λ c v hr' => hr'.up (λ _ _ h => h) ups
 have e : ∀ t', (s.ap (.tok t false)).tk t' = if t' = t then some false else s.tk t' := λ t' => AS.tk_set s t t' false
 have ne : ∀ t' sp', (s.ap (.tok t false)).tk t' = some true -> jd σ t sp t' = some sp' -> σ t' = some sp' := λ t' sp' h1 h2 => by
  rw [e] at h1
  unfold jd at h2
  split at h1
  ·cases h1
  ·rename_i hne; rw [if_neg hne] at h2; exact h2
 have h_capB : ∀ k, k < s.nin -> ∀ sp', (jd σ t sp) (vk k) = some sp' -> B.cap0 k = some sp' := λ k hk sp' hs' => by
  unfold jd at hs'
  split at hs'
  ·rename_i e0; exact absurd ht (e0 ▸ h.nink k hk)
  ·exact h.capB k hk sp' hs'
 refine { h' with capB := h_capB, env := λ t => upR _ _ (h.env t), box := λ b cs' hb => ?_, tok := λ t' sp' h1 h2 => h'.tok t' sp' h1 (ne _ _ h1 h2), cap := λ t' sp' h2 => ?_, sig := λ t' sp' h2 => ?_, tinj := λ t1 t2 sp1 sp2 h1 h2 q1 q2 => h'.tinj t1 t2 sp1 sp2 h1 h2 (ne _ _ h1 q1) (ne _ _ h2 q2) }
 ·rcases h.box b cs' hb with e | ⟨g, q1, q2, q3, q4⟩
  ·exact .inl e
  ·exact .inr ⟨g, q1, q2.of_heap rfl upR, q3, q4⟩
 ·unfold jd at h2
  split at h2
  ·cases h2; exact hr
  ·exact h.cap t' sp' h2
 ·unfold jd at h2
  split at h2
  ·rename_i e2; rw [e, if_pos e2]; simp
  ·exact h'.sig t' sp' h2
theorem SimW.newbox (h : SimW B M ρ σ s a w) (d : Nat) (hni : s.nin <= d) (hf : s.bx d = none) (ht : s.tk (vk d) = none) (ccs : Array Value) (t : TypeId) (cs : List AV) (hl : cs.length <= ccs.size)
  (h1 : ∀ i (h : i < ccs.size), (ccs[i]).oneCell' = true) (hr : ∀ i (h : i < ccs.size) (h' : i < cs.length), Rd M ρ σ ccs[i] cs[i]) :
  SimW B M (zam ρ d w.heap.size) σ (s.ap (.box d (some cs))) a (w.alloc (.cells ccs t)) :=
 (h.alloc (.cells ccs t)).adopt d hni hf ht w.heap.size cs (.inl ⟨ccs, t, At.new w _ _ h1, hl, λ i h _ => h1 i h, hr⟩) (λ o => h.free (Nat.le_refl _) o) h.size (λ b _ e => Nat.lt_irrefl _ (h.rlt b _ e)) (λ t sp _ h2 e => by have := (h.cap t sp h2).lt; omega)
theorem SimW.know (h : SimW B M ρ σ s a w) (d : Nat) (hu : s.tk d = none) (g : Nat) (ccs : Array Value) (t : TypeId) (hg : At w g ccs t) (hbase : B.w0.heap.size <= g) (hn : ∀ o, M g o = none) (hr : ∀ b, s.bx b ≠ none -> ρ b ≠ some g) (htk : ∀ t sp, s.tk t = some true -> σ t = some sp -> sp.g ≠ g) (f hi : Nat) (hf : f <= hi) (hhi : hi <= ccs.size) :
  SimW B (za6 M g 0 (ccs.toList.take f)) ρ (jd σ d ⟨g, f, hi⟩) (s.ap (.tok d true)) a w := by
 have hsd := h.snone hu
 have ups := zc9 (sp := ⟨g, f, hi⟩) hsd
 have hlen : (ccs.toList.take f).length = f := by simp; omega
 have sub : ∀ g' o c, M g' o = some c -> za6 M g 0 (ccs.toList.take f) g' o = some c := Jy λ o _ _ => hn o
 have ne : ∀ g' o, g' ≠ g -> za6 M g 0 (ccs.toList.take f) g' o = M g' o := λ g' o hg' => by unfold za6; rw [if_neg (λ e => hg' e.1)]
 have upR : ∀ c v, Rd M ρ σ c v -> Rd (za6 M g 0 (ccs.toList.take f)) ρ (jd σ d ⟨g, f, hi⟩) c v := λ c v hr' => hr'.mono sub _ _ (λ _ _ h => h) ups
 have e : ∀ t', (s.ap (.tok d true)).tk t' = if t' = d then some true else s.tk t' := λ t' => AS.tk_set s d t' true
 have h_capB : ∀ k, k < s.nin -> ∀ sp', (jd σ d ⟨g, f, hi⟩) (vk k) = some sp' -> B.cap0 k = some sp' := λ k hk sp' hs' => by
  unfold jd at hs'
  split at hs'
  ·rename_i e0; exact absurd hu (e0 ▸ h.nink k hk)
  ·exact h.capB k hk sp' hs'
 have h_nink : ∀ k, k < s.nin -> (s.ap (.tok d true)).tk (vk k) ≠ none := λ k hk => by
  rw [e]
  split
  ·simp
  ·exact h.nink k hk
 refine { h with capB := h_capB, nink := h_nink, env := λ t => upR _ _ (h.env t), mem := λ g' o c hm => ?_, memB := λ g' o hg' h2 => ?_, memS := λ g' o c hm => sub _ _ _ (h.memS g' o c hm), box := λ b cs' hb => ?_, rho := λ b g' hr' => ?_, tok := λ t' sp ht hs => ?_, cap := λ t' sp hs => ?_, sig := λ t' sp ht => ?_, tinj := λ t1 t2 sp sp' ht1 ht2 hs1 hs2 hgg => ?_ }
 ·unfold za6 at hm
  split at hm
  ·rename_i hc
   obtain ⟨rfl, -, h2⟩ := hc
   rw [zY hg]
   rw [hlen] at h2
   rw [Nat.sub_zero, List.getElem?_take_of_lt (by omega)] at hm
   simpa using hm
  ·exact h.mem g' o c hm
 ·rw [ne g' o (by omega)]; exact h.memB g' o hg' h2
 ·rcases h.box b cs' hb with e | ⟨g', q1, q2, q3, q4⟩
  ·exact .inl e
  ·have : g' ≠ g := λ e => hr b (j9 hb) (e ▸ q1)
   exact .inr ⟨g', q1, q2.of_heap rfl upR, λ o => by rw [ne g' o this]; exact q3 o, q4⟩
 ·rcases h.rho b g' hr' with q | q
  ·exact .inl q
  ·refine .inr ?_
   rw [e]
   split
   ·simp
   ·exact q
 ·rw [e] at ht
  unfold jd at hs
  by_cases htd : t' = d
  ·rw [if_pos htd] at hs
   cases hs
   refine ⟨.inl hbase, hf, λ o h1 h2 => ?_, hr⟩
   unfold za6
   have n1 : ¬ (g = g /\ 0 <= o /\ o < 0 + (ccs.toList.take f).length) := by rw [hlen]; dsimp only at h1; omega
   rw [if_neg n1]
   exact hn o
  ·rw [if_neg htd] at ht hs
   obtain ⟨h3, h4, h7, h8⟩ := h.tok t' sp ht hs
   have := htk t' sp ht hs
   exact ⟨h3, h4, λ o x y => by rw [ne _ o this]; exact h7 o x y, h8⟩
 ·unfold jd at hs
  split at hs
  ·cases hs; exact ⟨ccs, t, hg, hhi⟩
  ·exact h.cap t' sp hs
 ·rw [e]
  split
  ·simp
  ·rename_i hc
   unfold jd at ht
   rw [if_neg hc] at ht
   exact h.sig t' sp ht
 ·rw [e] at ht1 ht2
  unfold jd at hs1 hs2
  by_cases e1 : t1 = d
  ·by_cases e2 : t2 = d
   ·rw [e1, e2]
   ·rw [if_pos e1] at hs1
    rw [if_neg e2] at ht2 hs2
    cases hs1
    exact absurd hgg.symm (htk _ _ ht2 hs2)
  ·rw [if_neg e1] at ht1 hs1
   by_cases e2 : t2 = d
   ·rw [if_pos e2] at hs2
    cases hs2
    exact absurd hgg (htk _ _ ht1 hs1)
   ·rw [if_neg e2] at ht2 hs2
    exact h.tinj t1 t2 sp sp' ht1 ht2 hs1 hs2 hgg
theorem SimW.newrow (h : SimW B M ρ σ s a w) (d : Nat) (hu : s.tk d = none) (ccs : Array Value) (t : TypeId) (h1 : ∀ i (h : i < ccs.size), (ccs[i]).oneCell' = true) (f : Nat) (hf : f <= ccs.size) :
  SimW B (za6 M w.heap.size 0 (ccs.toList.take f)) ρ (jd σ d ⟨w.heap.size, f, ccs.size⟩) (s.ap (.tok d true)) a (w.alloc (.cells ccs t)) :=
 (h.alloc (.cells ccs t)).know d hu w.heap.size ccs t (At.new w _ _ h1) h.size (λ o => h.free (Nat.le_refl _) o) (λ b _ e => Nat.lt_irrefl _ (h.rlt b _ e)) (λ t sp _ h2 e => by have := (h.cap t sp h2).lt; omega) f ccs.size hf (Nat.le_refl _)
theorem SimW.inplace (h : SimW B M ρ σ s a w) (t d : Nat) (ht : s.tk t = some true) (sp : Spare) (hsp : σ t = some sp) (vs : List Value) (hv : ∀ i (h : i < vs.length), (vs[i]).oneCell' = true) (hfit : sp.lo + vs.length <= sp.hi) (hu : s.tk d = none) :
  SimW B (za6 M sp.g sp.lo vs) ρ (jd σ d ⟨sp.g, sp.lo + vs.length, sp.hi⟩) ((s.ap (.tok t false)).ap (.tok d true)) a (w.setCells sp.g sp.lo vs) := by
 have hsd := h.snone hu
 have htd : t ≠ d := λ e => by rw [e, hu] at ht; cases ht
 obtain ⟨hbase, hlo, hnone, hrho⟩ := h.tok t sp ht hsp
 obtain ⟨ccs, ty, hrow, hhi⟩ := h.cap t sp hsp
 have ups := zc9 (sp := ⟨sp.g, sp.lo + vs.length, sp.hi⟩) hsd
 have sub : ∀ g o c, M g o = some c -> za6 M sp.g sp.lo vs g o = some c := Jy λ o h1 h2 => hnone o h1 (by omega)
 have ne : ∀ g o, g ≠ sp.g -> za6 M sp.g sp.lo vs g o = M g o := λ g o hg => by unfold za6; rw [if_neg (λ e => hg e.1)]
 have old : ∀ k, k ≠ sp.g -> (w.setCells sp.g sp.lo vs).heap[k]? = w.heap[k]? := λ k hk => Zo _ _ _ _ _ hk
 obtain ⟨ccs', hrow', hsz, hget⟩ := jH sp.g ty vs sp.lo w ccs hrow (by omega) hv
 obtain ⟨f1, f2, f3, f4⟩ := ZE sp.g vs sp.lo w
 have upR : ∀ c v, Rd M ρ σ c v -> Rd (za6 M sp.g sp.lo vs) ρ (jd σ d ⟨sp.g, sp.lo + vs.length, sp.hi⟩) c v := λ c v hr' => hr'.mono sub _ _ (λ _ _ h => h) ups
 have rowold : ∀ g n, Row w g n -> Row (w.setCells sp.g sp.lo vs) g n := λ g n hr => by
  by_cases e : g = sp.g
  ·subst e
   obtain ⟨c2, t2, q1, q2⟩ := hr
   obtain ⟨rfl, rfl⟩ := hrow.uniq q1
   exact ⟨ccs', ty, hrow', by omega⟩
  ·exact hr.of_heap (old g e)
 have tkq : ∀ t', ((s.ap (.tok t false)).ap (.tok d true)).tk t' = if t' = d then some true else if t' = t then some false else s.tk t' := λ t' => by
  rw [AS.tk_set, AS.tk_set]
 have h_capB : ∀ k, k < s.nin -> ∀ sp', (jd σ d ⟨sp.g, sp.lo + vs.length, sp.hi⟩) (vk k) = some sp' -> B.cap0 k = some sp' := λ k hk sp' hs' => by
  unfold jd at hs'
  split at hs'
  ·rename_i e0; exact absurd hu (e0 ▸ h.nink k hk)
  ·exact h.capB k hk sp' hs'
 have h_nink : ∀ k, k < s.nin -> ((s.ap (.tok t false)).ap (.tok d true)).tk (vk k) ≠ none := λ k hk => by
  rw [tkq]
  split
  ·simp
  ·split
   ·simp
   ·exact h.nink k hk
 refine { h with defers := h.defers.keep λ D _ hd => (old D (ja hd hrow)).trans hd, capB := h_capB, nink := h_nink, env := λ t => upR _ _ (h.env t), mem := λ g o c hm => ?_, memB := λ g o hg h2 => ?_, memS := λ g o c hm => sub _ _ _ (h.memS g o c hm), os := f1.trans h.os, tape := f2.trans h.tape, output := f3.trans h.output, size := by rw [f4]; exact h.size, block := λ k h1 h2 h3 => ?_, box := λ b cs' hb => ?_, rws := λ g n hr => rowold g n (h.rws g n hr), rlt := λ b g hr => by rw [f4]; exact h.rlt b g hr, rho := λ b g' hr' => ?_, tok := λ t' sp' ht' hs' => ?_, cap := λ t' sp' hs' => ?_, sig := λ t' sp' ht' => ?_, tinj := λ t1 t2 sp1 sp2 ht1 ht2 hs1 hs2 hg => ?_ }
 ·unfold za6 at hm
  split at hm
  ·rename_i hc
   obtain ⟨rfl, h1, h2⟩ := hc
   rw [zY hrow', hget, if_pos ⟨h1, h2⟩]; exact hm
  ·rename_i hc
   by_cases hg : g = sp.g
   ·subst hg
    rw [zY hrow', hget, if_neg (λ e => hc ⟨rfl, e⟩), <- zY hrow]; exact h.mem _ o c hm
   ·rw [zR (old g hg)]; exact h.mem g o c hm
 ·have : g ≠ sp.g := λ e => by
   subst e
   rcases hbase with q | q
   ·omega
   ·exact h2 q
  rw [ne g o this]; exact h.memB g o hg h2
 ·have : k ≠ sp.g := λ e => by
   subst e
   rcases hbase with q | q
   ·omega
   ·exact h3 q
  rw [old k this]; exact h.block k h1 h2 h3
 ·rcases h.box b cs' hb with e | ⟨g, q1, q2, q3, q4⟩
  ·exact .inl e
  ·have hne : g ≠ sp.g := λ e => hrho b (j9 hb) (e ▸ q1)
   exact .inr ⟨g, q1, q2.of_heap (old g hne) upR, λ o => by rw [ne g o hne]; exact q3 o, q4⟩
 ·rcases h.rho b g' hr' with q | q
  ·exact .inl q
  ·refine .inr ?_
   rw [tkq]
   split
   ·simp
   ·split
    ·simp
    ·exact q
 ·rw [tkq] at ht'
  by_cases e1 : t' = d
  ·subst e1
   have hs2 : sp' = ⟨sp.g, sp.lo + vs.length, sp.hi⟩ := by simp [jd] at hs'; exact hs'.symm
   subst hs2
   refine ⟨hbase, hfit, λ o h1 h2 => ?_, hrho⟩
   unfold za6
   have n1 : ¬ (sp.g = sp.g /\ sp.lo <= o /\ o < sp.lo + vs.length) := by dsimp only at h1; omega
   rw [if_neg n1]
   exact hnone o (by dsimp only at h1; omega) h2
  ·rw [if_neg e1] at ht'
   by_cases e2 : t' = t
   ·rw [if_pos e2] at ht'; cases ht'
   ·rw [if_neg e2] at ht'
    unfold jd at hs'
    rw [if_neg e1] at hs'
    obtain ⟨h3, h4, h7, h8⟩ := h.tok t' sp' ht' hs'
    have hne : sp'.g ≠ sp.g := λ e => e2 (h.tinj t' t sp' sp ht' ht hs' hsp e)
    exact ⟨h3, h4, λ o x y => by rw [ne _ o hne]; exact h7 o x y, h8⟩
 ·unfold jd at hs'
  split at hs'
  ·cases hs'; exact ⟨ccs', ty, hrow', by dsimp only; omega⟩
  ·exact rowold _ _ (h.cap t' sp' hs')
 ·rw [tkq]
  unfold jd at ht'
  split at ht'
  ·rename_i e; rw [if_pos e]; simp
  ·rename_i e
   rw [if_neg e]
   split
   ·simp
   ·exact h.sig t' sp' ht'
 ·rw [tkq] at ht1 ht2
  unfold jd at hs1 hs2
  have key : ∀ t', t' ≠ t -> ∀ sp', s.tk t' = some true -> σ t' = some sp' -> sp'.g ≠ sp.g := λ t' hne sp' h1 h2 e => hne (h.tinj t' t sp' sp h1 ht h2 hsp e)
  by_cases e1 : t1 = d
  ·by_cases e2 : t2 = d
   ·rw [e1, e2]
   ·rw [if_pos e1] at hs1
    rw [if_neg e2] at ht2 hs2
    by_cases e3 : t2 = t
    ·rw [if_pos e3] at ht2; cases ht2
    ·rw [if_neg e3] at ht2
     cases hs1
     exact absurd hg.symm (key _ e3 _ ht2 hs2)
  ·rw [if_neg e1] at ht1 hs1
   by_cases e3 : t1 = t
   ·rw [if_pos e3] at ht1; cases ht1
   ·rw [if_neg e3] at ht1
    by_cases e2 : t2 = d
    ·rw [if_pos e2] at hs2
     cases hs2
     exact absurd hg (key _ e3 _ ht1 hs1)
    ·rw [if_neg e2] at ht2 hs2
     by_cases e4 : t2 = t
     ·rw [if_pos e4] at ht2; cases ht2
     ·rw [if_neg e4] at ht2
      exact h.tinj t1 t2 sp1 sp2 ht1 ht2 hs1 hs2 hg
theorem SimW.store (h : SimW B M ρ σ s a w) (b g : Nat) (cs : List AV) (hb : s.bx b = some cs) (hmp : Z8 b = false \/ ∃ n, Row w g n) (hg : ρ b = some g) (off : Nat) (vs : List Value) (news : List AV) (hl : vs.length = news.length) (hfit : off + news.length <= cs.length)
  (h1 : ∀ i (h : i < vs.length), (vs[i]).oneCell' = true) (hr : ∀ i (h : i < vs.length) (h' : i < news.length), Rd M ρ σ vs[i] news[i]) :
  SimW B M ρ σ (s.ap (.box b (some (splice cs off news)))) a (w.setCells g off vs) := by
 have hbn := j9 hb
 rcases h.box b cs hb with ⟨-, e⟩ | ⟨g0, hg0, hh0, hnone, hbase⟩
 ·rw [hg] at e; cases e
 rw [hg] at hg0
 cases hg0
 obtain ⟨ccs, ty, hrow, hsz, hone, hrd⟩ := hmp.elim (λ q => hh0.cells q) λ ⟨_, q⟩ => hh0.row q
 have old : ∀ k, k ≠ g -> (w.setCells g off vs).heap[k]? = w.heap[k]? := λ k hk => Zo _ _ _ _ _ hk
 obtain ⟨ccs', hrow', hsz', hget⟩ := jH g ty vs off w ccs hrow (by omega) h1
 obtain ⟨f1, f2, f3, f4⟩ := ZE g vs off w
 have hne' : ∀ b', (s.ap (.box b (some (splice cs off news)))).bx b' ≠ none -> s.bx b' ≠ none := λ b' hb' => by
  rw [AS.bx_set] at hb'
  split at hb'
  ·rename_i e; rw [e]; exact hbn
  ·exact hb'
 have rowold : ∀ g' n, Row w g' n -> Row (w.setCells g off vs) g' n := λ g' n hr => by
  by_cases e : g' = g
  ·subst e
   obtain ⟨c2, t2, q1, q2⟩ := hr
   obtain ⟨rfl, rfl⟩ := hrow.uniq q1
   exact ⟨ccs', ty, hrow', by omega⟩
  ·exact hr.of_heap (old g' e)
 refine { h with defers := h.defers.keep λ D _ hd => (old D (ja hd hrow)).trans hd, own := λ k hk hbk => h.own k hk (hne' k hbk), mem := λ g' o c hm => ?_, os := f1.trans h.os, tape := f2.trans h.tape, output := f3.trans h.output, size := by rw [f4]; exact h.size, block := λ k h1 h2 h3 => ?_, box := λ b' cs' hb' => ?_, rws := λ g n hr => rowold g n (h.rws g n hr), rlt := λ b' g' hr' => by rw [f4]; exact h.rlt b' g' hr', rho := λ b' g' hb' => ?_, inj := λ b1 b2 g' q1 q2 q3 q4 => h.inj b1 b2 g' (hne' _ q1) (hne' _ q2) q3 q4, tok := λ t' sp' ht' hs' => ?_, cap := λ t sp hs => rowold _ _ (h.cap t sp hs) }
 ·have hne : g' ≠ g := λ e => by rw [e, hnone] at hm; cases hm
  rw [zR (old g' hne)]; exact h.mem g' o c hm
 ·have hne : k ≠ g := λ e => by
   subst e
   rcases hbase with x | x
   ·omega
   ·exact h2 x
  rw [old k hne]; exact h.block k h1 h2 h3
 ·rw [AS.bx_set] at hb'
  by_cases e : b' = b
  ·subst e
   rw [if_pos rfl] at hb'
   cases hb'
   refine .inr ⟨g, hg, .inl ⟨ccs', ty, hrow', by rw [zB]; omega, λ i hi hi' => ?_, λ i hi hi' => ?_⟩, hnone, hbase⟩
   ·rw [zB] at hi'
    have e1 := hget i
    rw [Array.getElem?_eq_getElem hi] at e1
    split at e1
    ·rename_i hc
     rw [List.getElem?_eq_getElem (by omega)] at e1
     rw [Option.some.inj e1]; exact h1 _ _
    ·rw [Array.getElem?_eq_getElem (by omega)] at e1
     rw [Option.some.inj e1]; exact hone _ _ hi'
   ·have e1 := hget i
    have e2 := jC news cs off hfit i
    rw [Array.getElem?_eq_getElem hi] at e1
    rw [List.getElem?_eq_getElem hi'] at e2
    rw [zB] at hi'
    split at e1
    ·rename_i hc
     rw [if_pos (by omega)] at e2
     rw [List.getElem?_eq_getElem (by omega)] at e1 e2
     rw [Option.some.inj e1, Option.some.inj e2]; exact hr _ _ _
    ·rename_i hc
     rw [if_neg (by omega)] at e2
     rw [Array.getElem?_eq_getElem (by omega)] at e1
     rw [List.getElem?_eq_getElem (by omega)] at e2
     rw [Option.some.inj e1, Option.some.inj e2]; exact hrd _ _ _
  ·rw [if_neg e] at hb'
   rcases h.box b' cs' hb' with q | ⟨g', q1, q2, q3, q4⟩
   ·exact .inl q
   ·have hne : g' ≠ g := λ e' => e (h.inj b' b g (j9 hb') hbn (e' ▸ q1) hg)
    exact .inr ⟨g', q1, q2.of_heap (old g' hne) λ _ _ h => h, q3, q4⟩
 ·rw [AS.bx_set]
  split
  ·exact .inl (by simp)
  ·exact h.rho b' g' hb'
 ·obtain ⟨h3, h4, h7, h8⟩ := h.tok t' sp' ht' hs'
  exact ⟨h3, h4, h7, λ b' hb' => h8 b' (hne' b' hb')⟩
theorem SimW.rebox (h : SimW B M ρ σ s a w) {b : Nat} {cs0 : List AV} (hb : s.bx b = some cs0) (cs : List AV) (hh : (cs = [] /\ ρ b = none) \/ ∃ g, ρ b = some g /\ Hold b M ρ σ w g cs) : SimW B M ρ σ (s.ap (.box b (some cs))) a w := by
 have hbn := j9 hb
 have hne' : ∀ b', (s.ap (.box b (some cs))).bx b' ≠ none -> s.bx b' ≠ none := λ b' hb' => by
  rw [AS.bx_set] at hb'
  split at hb'
  ·rename_i e; rw [e]; exact hbn
  ·exact hb'
 refine { h with own := λ k hk hbk => h.own k hk (hne' k hbk), box := λ b' cs' hb' => ?_, rho := λ b' g' hb' => ?_, inj := λ b1 b2 g' q1 q2 q3 q4 => h.inj b1 b2 g' (hne' _ q1) (hne' _ q2) q3 q4, tok := λ t' sp' ht' hs' => ?_ }
 ·rw [AS.bx_set] at hb'
  by_cases e : b' = b
  ·subst e
   rw [if_pos rfl] at hb'
   cases hb'
   rcases hh with q | ⟨g, q1, q2⟩
   ·exact .inl q
   ·rcases h.box b' cs0 hb with ⟨-, q⟩ | ⟨g', p1, -, p3, p4⟩
    ·rw [q1] at q; cases q
    ·rw [q1] at p1; cases p1
     exact .inr ⟨g, q1, q2, p3, p4⟩
  ·rw [if_neg e] at hb'
   exact h.box b' cs' hb'
 ·rw [AS.bx_set]
  split
  ·exact .inl (by simp)
  ·exact h.rho b' g' hb'
 ·obtain ⟨h3, h4, h7, h8⟩ := h.tok t' sp' ht' hs'
  exact ⟨h3, h4, h7, λ b' hb' => h8 b' (hne' b' hb')⟩
theorem SimW.samebox (h : SimW B M ρ σ s a w) {b : Nat} {cs : List AV} (hb : s.bx b = some cs) : SimW B M ρ σ (s.ap (.box b (some cs))) a w :=
 h.rebox hb cs ((h.box b cs hb).imp id λ ⟨g, q1, q2, _⟩ => ⟨g, q1, q2⟩)
theorem SimW.reread (h : SimW B M ρ σ s a w) (t : Nat) (v : AV) (hr : Rd M ρ σ (a.tmps.getD t undef) v) : SimW B M ρ σ (s.ap (.env t v)) a w :=
 { h with
  len := by simp [AS.ap, h.len]
  env := λ t' => by
   rw [AS.at_set]
   split
   ·rename_i e; rw [e.1]; exact hr
   ·exact h.env t' }
theorem SimW.tokdead (h : SimW B M ρ σ s a w) (k : Nat) : SimW B M ρ σ (s.ap (.tok k false)) a w := by
 have e : ∀ t', (s.ap (.tok k false)).tk t' = if t' = k then some false else s.tk t' := λ t' => AS.tk_set s k t' false
 have ne : ∀ t', (s.ap (.tok k false)).tk t' = some true -> s.tk t' = some true := λ t' h' => by
  rw [e] at h'
  split at h'
  ·cases h'
  ·exact h'
 have h_nink : ∀ j, j < s.nin -> (s.ap (.tok k false)).tk (vk j) ≠ none := λ j hj => by
  rw [e]
  split
  ·simp
  ·exact h.nink j hj
 refine { h with nink := h_nink, rho := λ b g hr => ?_, tok := λ t' sp h1 h2 => h.tok t' sp (ne t' h1) h2, sig := λ t' sp hs => ?_, tinj := λ t1 t2 sp sp' h1 h2 => h.tinj t1 t2 sp sp' (ne _ h1) (ne _ h2) }
 ·rcases h.rho b g hr with q | q
  ·exact .inl q
  ·refine .inr ?_
   rw [e]
   split
   ·simp
   ·exact q
 ·rw [e]
  split
  ·simp
  ·exact h.sig t' sp hs
theorem SimW.ownTok (h : SimW B M ρ σ s a w) (d : Nat) (hu : s.tk d = none) (so : Option Spare) (hso : ∀ sp, so = some sp -> (B.w0.heap.size <= sp.g \/ B.tgs sp.g) /\ sp.lo <= sp.hi /\ (∀ o, sp.lo <= o -> o < sp.hi -> M sp.g o = none) /\ (∀ b, s.bx b ≠ none -> ρ b ≠ some sp.g) /\ Row w sp.g sp.hi /\ ∀ t sp', s.tk t = some true -> σ t = some sp' -> sp'.g ≠ sp.g) :
  SimW B M ρ (λ t => if t = d then so else σ t) (s.ap (.tok d true)) a w := by
 have hsd := h.snone hu
 have ups : ∀ k sp', σ k = some sp' -> (if k = d then so else σ k) = some sp' := λ k sp' hk => by
  split
  ·rename_i e; subst e; rw [hsd] at hk; cases hk
  ·exact hk
 have upR : ∀ c v, Rd M ρ σ c v -> Rd M ρ (λ t => if t = d then so else σ t) c v := λ c v hr' => hr'.up (λ _ _ h => h) ups
 have e : ∀ t', (s.ap (.tok d true)).tk t' = if t' = d then some true else s.tk t' := λ t' => AS.tk_set s d t' true
 have h_capB : ∀ k, k < s.nin -> ∀ sp', ((λ t => if t = d then so else σ t)) (vk k) = some sp' -> B.cap0 k = some sp' := λ k hk sp' hs' => by
  dsimp only at hs'
  split at hs'
  ·rename_i e0; exact absurd hu (e0 ▸ h.nink k hk)
  ·exact h.capB k hk sp' hs'
 have h_nink : ∀ k, k < s.nin -> (s.ap (.tok d true)).tk (vk k) ≠ none := λ k hk => by
  rw [e]
  split
  ·simp
  ·exact h.nink k hk
 refine { h with capB := h_capB, nink := h_nink, env := λ t => upR _ _ (h.env t), box := λ b cs hb => ?_, rho := λ b g' hr' => ?_, tok := λ t sp' ht' hs => ?_, cap := λ t sp hs => ?_, sig := λ t sp' hs => ?_, tinj := λ t t' sp1 sp2 h1 h2 hs1 hs2 hg => ?_ }
 ·rcases h.box b cs hb with q | ⟨g, q1, q2, q3, q4⟩
  ·exact .inl q
  ·exact .inr ⟨g, q1, q2.of_heap rfl upR, q3, q4⟩
 ·rcases h.rho b g' hr' with q | q
  ·exact .inl q
  ·refine .inr ?_
   rw [e]
   split
   ·simp
   ·exact q
 ·rw [e] at ht'
  by_cases hd : t = d
  ·rw [if_pos hd] at hs
   obtain ⟨q1, q2, q3, q4, -⟩ := hso _ hs
   exact ⟨q1, q2, q3, q4⟩
  ·rw [if_neg hd] at hs ht'
   exact h.tok t sp' ht' hs
 ·split at hs
  ·exact (hso _ hs).2.2.2.2.1
  ·exact h.cap t sp hs
 ·rw [e]
  by_cases hd : t = d
  ·rw [if_pos hd]; simp
  ·rw [if_neg hd] at hs |-; exact h.sig t sp' hs
 ·rw [e] at h1 h2
  by_cases e1 : t = d
  ·by_cases e2 : t' = d
   ·rw [e1, e2]
   ·rw [if_pos e1] at hs1
    rw [if_neg e2] at h2 hs2
    exact absurd hg.symm ((hso _ hs1).2.2.2.2.2 _ _ h2 hs2)
  ·rw [if_neg e1] at h1 hs1
   by_cases e2 : t' = d
   ·rw [if_pos e2] at hs2
    exact absurd hg ((hso _ hs2).2.2.2.2.2 _ _ h1 hs1)
   ·rw [if_neg e2] at h2 hs2
    exact h.tinj t t' sp1 sp2 h1 h2 hs1 hs2 hg
theorem SimW.tokfree (h : SimW B M ρ σ s a w) (d : Nat) (hu : s.tk d = none) : SimW B M ρ σ (s.ap (.tok d true)) a w := by
 have hsd := h.snone hu
 have h2 := h.ownTok d hu none (λ sp e => by cases e)
 have : (λ t => if t = d then none else σ t) = σ := by
  funext t
  split
  ·rename_i e; rw [e, hsd]
  ·rfl
 rw [this] at h2
 exact h2
theorem jJ {f : Option (Nat × Nat × Nat)} {t : Nat} (h : t < TOB) : zfA f t = none := by
 unfold zfA
 split
 ·rfl
 ·have : Nat.ble TOB t = false := by
   cases e : Nat.ble TOB t with
   | false => rfl
   | true => have := Nat.le_of_ble_eq_true e; omega
  rw [this]; rfl
theorem Jj {b j N i : Nat} (h : N <= i) : zfA (some (b, j, N)) (TOB + i) = none := by
 have : Nat.ble (TOB + N) (TOB + i) = true := Nat.ble_eq_true_of_le (by omega)
 show (bif Nat.ble TOB (TOB + i) && !(Nat.ble (TOB + N) (TOB + i)) then some (Nat.ble (TOB + j) (TOB + i)) else none) = none
 rw [this]; simp
theorem ZU {b j N i : Nat} (h : i < N) : zfA (some (b, j, N)) (TOB + i) = some (decide (j <= i)) := by
 have e1 : Nat.ble (TOB + N) (TOB + i) = false := by
  cases e : Nat.ble (TOB + N) (TOB + i) with
  | false => rfl
  | true => have := Nat.le_of_ble_eq_true e; omega
 have e2 : Nat.ble TOB (TOB + i) = true := Nat.ble_eq_true_of_le (by omega)
 show (bif Nat.ble TOB (TOB + i) && !(Nat.ble (TOB + N) (TOB + i)) then some (Nat.ble (TOB + j) (TOB + i)) else none) = _
 rw [e1, e2]
 have e3 : Nat.ble (TOB + j) (TOB + i) = decide (j <= i) := by
  cases e : Nat.ble (TOB + j) (TOB + i) with
  | true => have := Nat.le_of_ble_eq_true e; rw [decide_eq_true (by omega)]
  | false =>
   by_cases hji : j <= i
   ·rw [Nat.ble_eq_true_of_le (by omega)] at e; cases e
   ·rw [decide_eq_false hji]
 simp [e3]
def JB (l : List (Nat × Bool)) : Bool := l.all λ p => !(Nat.ble TOB p.1)
theorem jb {l : List (Nat × Bool)} (h : JB l = true) {t : Nat} (ht : TOB <= t) : l.lookup t = none := by
 rw [List.lookup_eq_none_iff]
 intro p hp
 have := List.all_eq_true.1 h p hp
 have hb : p.1 < TOB := by
  cases e : Nat.ble TOB p.1 with
  | false =>
   by_cases q : TOB <= p.1
   ·rw [Nat.ble_eq_true_of_le q] at e; cases e
   ·omega
  | true => rw [e] at this; cases this
 simp only [beq_eq_false_iff_ne, ne_eq, bne_iff_ne, beq_iff_eq]
 try omega
theorem SimW.tkweak (h : SimW B M ρ σ s a w) {s' : AS} (e1 : s'.env = s.env) (e2 : ∀ b, s'.bx b = s.bx b) (e3 : s'.nin = s.nin) (e4 : ∀ t, s'.tk t = some true -> s.tk t = some true) (e5 : ∀ t, s.tk t ≠ none -> s'.tk t ≠ none) : SimW B M ρ σ s' a w where
 len := by rw [e1]; exact h.len
 env := λ t => by unfold AS.at; rw [e1]; exact h.env t
 nin := e3.trans h.nin
 own := λ k hk hb => h.own k (by rw [<- e3]; exact hk) (by rw [<- e2]; exact hb)
 fresh := λ b g hb => h.fresh b g (by rw [<- e3]; exact hb)
 defers := h.defers
 mem := h.mem
 memB := h.memB
 memS := h.memS
 gl := h.gl
 os := h.os
 tape := h.tape
 output := h.output
 size := h.size
 block := h.block
 box := λ b cs hb => h.box b cs (by rw [<- e2]; exact hb)
 rws := h.rws
 rlt := h.rlt
 rho := λ b g hr => by
  rcases h.rho b g hr with q | q
  ·exact .inl (by rw [e2]; exact q)
  ·exact .inr (e5 _ q)
 inj := λ b b' g h1 h2 => h.inj b b' g (by rw [<- e2]; exact h1) (by rw [<- e2]; exact h2)
 tok := λ t sp h1 h2 => by
  obtain ⟨q1, q2, q3, q4⟩ := h.tok t sp (e4 t h1) h2
  exact ⟨q1, q2, q3, λ b hb => q4 b (by rw [<- e2]; exact hb)⟩
 cap := h.cap
 sig := λ t sp hs => e5 _ (h.sig t sp hs)
 capB := λ k hk => h.capB k (by rw [<- e3]; exact hk)
 nink := λ k hk => e5 _ (h.nink k (by rw [<- e3]; exact hk))
 tinj := λ t t' sp sp' h1 h2 => h.tinj t t' sp sp' (e4 _ h1) (e4 _ h2)
theorem AS.tk_fm (s : AS) (f : Option (Nat × Nat × Nat)) (t : Nat) : (s.ap (.fm f)).tk t = match s.tok.lookup t with | some x => some x | none => zfA f t := rfl
theorem SimW.fmAdd (h : SimW B M ρ σ s a w) (t2 : Nat) (ht : s.tk t2 = some true) (hlo : t2 < TOB) (b d j N : Nat) (hj : j <= N) (hf : s.fm = some (b, j, N) \/ (s.fm = none /\ N = 0)) (hno : JB s.tok = true) :
  SimW B M ρ (λ t => if t = TOB + N then σ t2 else σ t) ((s.ap (.tok t2 false)).ap (.fm (some (d, j, N + 1)))) a w /\ σ (TOB + N) = none := by
 have l0 : ∀ t, TOB <= t -> s.tok.lookup t = none := λ t => jb hno
 have fN : zfA s.fm (TOB + N) = none := by
  rcases hf with e | ⟨e, rfl⟩
  ·rw [e]; exact Jj (Nat.le_refl _)
  ·rw [e]; rfl
 have fold : ∀ t (y : Bool), zfA s.fm t = some y -> t < TOB + N := λ t y e => by
  rcases hf with e' | ⟨e', -⟩
  ·rw [e'] at e
   have e : (bif Nat.ble TOB t && !(Nat.ble (TOB + N) t) then some (Nat.ble (TOB + j) t) else none) = some y := e
   cases q : Nat.ble (TOB + N) t with
   | true => rw [q] at e; simp at e
   | false =>
    by_cases q2 : TOB + N <= t
    ·rw [Nat.ble_eq_true_of_le q2] at q; cases q
    ·omega
  ·rw [e'] at e; cases e
 have h1 := h.tokdead t2
 have tN : (s.ap (.tok t2 false)).tk (TOB + N) = none := by
  rw [AS.tk_set, if_neg (by omega)]
  unfold AS.tk
  rw [l0 _ (by omega), fN]
 have h2 := h1.ownTok (TOB + N) tN (σ t2) (λ sp hsp => by
  obtain ⟨q1, q2, q3, q4⟩ := h.tok t2 sp ht hsp
  refine ⟨q1, q2, q3, q4, h.cap _ _ hsp, λ t sp' hl hs e => ?_⟩
  rw [AS.tk_set] at hl
  split at hl
  ·cases hl
  ·rename_i hne
   exact hne (h.tinj t t2 sp' sp hl ht hs hsp e))
 refine ⟨h2.tkweak rfl (λ _ => rfl) rfl (λ t hl => ?_) (λ t hl => ?_), h1.snone tN⟩
 ·rw [AS.tk_set]
  split
  ·rfl
  ·rename_i hne
   rw [AS.tk_fm] at hl
   rw [AS.tk_set]
   by_cases e : t = t2
   ·rw [if_pos e]
    rw [e] at hl
    have : (s.ap (.tok t2 false)).tok.lookup t2 = some false := by simp [AS.ap, List.lookup_cons]
    rw [this] at hl
    exact hl
   ·rw [if_neg e]
    have el : (s.ap (.tok t2 false)).tok.lookup t = s.tok.lookup t := by
     have : (t == t2) = false := by simp [e]
     simp [AS.ap, List.lookup_cons, this]
    rw [el] at hl
    unfold AS.tk
    split at hl
    ·rename_i x hx; (try rw [hx]); exact hl
    ·rename_i hx
     try rw [hx]
     try simp only
     by_cases ht' : TOB <= t
     ·obtain ⟨i, rfl⟩ : ∃ i, t = TOB + i := ⟨t - TOB, by omega⟩
      have hi : i < N := by
       by_cases q : N + 1 <= i
       ·rw [Jj q] at hl; cases hl
       ·omega
      rw [ZU (by omega)] at hl
      rcases hf with e' | ⟨e', e''⟩
      ·rw [e', ZU hi]; exact hl
      ·omega
     ·rw [jJ (by omega)] at hl; cases hl
 ·rw [AS.tk_fm]
  rw [AS.tk_set] at hl
  split
  ·simp
  ·rename_i hx
   by_cases ht' : TOB <= t
   ·obtain ⟨i, rfl⟩ : ∃ i, t = TOB + i := ⟨t - TOB, by omega⟩
    have hi : i < N + 1 := by
     by_cases q : i = N
     ·omega
     ·rw [if_neg (by omega), AS.tk_set, if_neg (by omega)] at hl
      unfold AS.tk at hl
      rw [l0 _ ht'] at hl
      cases e : zfA s.fm (TOB + i) with
      | none => rw [e] at hl; exact absurd rfl hl
      | some b => have := fold _ _ e; omega
    rw [ZU hi]; simp
   ·exfalso
    rw [if_neg (by omega)] at hl
    have : (s.ap (.tok t2 false)).tk t = none := by
     unfold AS.tk
     rw [hx]
     simp only
     exact jJ (by omega)
    exact hl this
theorem SimW.fmTake (h : SimW B M ρ σ s a w) (τ : Nat) (hτ : s.tk τ = none) (b i j N : Nat) (hji : j <= i) (hi : i < N) (hf : s.fm = some (b, j, N)) (hno : JB s.tok = true) :
  SimW B M ρ (λ t => if t = τ then σ (TOB + i) else σ t) ((s.ap (.fm (some (b, i + 1, N)))).ap (.tok τ true)) a w := by
 have l0 : ∀ t, TOB <= t -> s.tok.lookup t = none := λ t => jb hno
 have tI : s.tk (TOB + i) = some true := by
  unfold AS.tk
  rw [l0 _ (by omega), hf]
  simp only
  rw [ZU hi, decide_eq_true hji]
 have old : ∀ t, (s.ap (.fm (some (b, i + 1, N)))).tk t = some true -> s.tk t = some true /\ t ≠ TOB + i := λ t hl => by
  rw [AS.tk_fm] at hl
  split at hl
  ·rename_i x hx
   refine ⟨by unfold AS.tk; rw [hx]; exact hl, λ e => ?_⟩
   rw [e, l0 _ (by omega)] at hx; cases hx
  ·rename_i hx
   by_cases ht' : TOB <= t
   ·obtain ⟨k, rfl⟩ : ∃ k, t = TOB + k := ⟨t - TOB, by omega⟩
    have hk : k < N := by
     by_cases q : N <= k
     ·rw [Jj q] at hl; cases hl
     ·omega
    rw [ZU hk] at hl
    have hik : i + 1 <= k := by simpa using hl
    refine ⟨?_, by omega⟩
    unfold AS.tk
    rw [hx, hf]
    simp only
    rw [ZU hk, decide_eq_true (by omega)]
   ·rw [jJ (by omega)] at hl; cases hl
 have h1 : SimW B M ρ σ (s.ap (.fm (some (b, i + 1, N)))) a w := h.tkweak rfl (λ _ => rfl) rfl (λ t hl => (old t hl).1) (λ t hl => by
  rw [AS.tk_fm]
  unfold AS.tk at hl
  split
  ·simp
  ·rename_i hx
   rw [hx, hf] at hl
   simp only at hl
   by_cases ht' : TOB <= t
   ·obtain ⟨k, rfl⟩ : ∃ k, t = TOB + k := ⟨t - TOB, by omega⟩
    by_cases q : N <= k
    ·rw [Jj q] at hl; exact absurd rfl hl
    ·rw [ZU (by omega)]; simp
   ·rw [jJ (by omega)] at hl; exact absurd rfl hl)
 refine h1.ownTok τ ?_ (σ (TOB + i)) (λ sp hsp => ?_)
 ·rw [AS.tk_fm]
  unfold AS.tk at hτ
  split at hτ
  ·cases hτ
  ·rename_i hx
   try rw [hx]
   try simp only
   rw [hf] at hτ
   by_cases ht' : TOB <= τ
   ·obtain ⟨k, rfl⟩ : ∃ k, τ = TOB + k := ⟨τ - TOB, by omega⟩
    by_cases q : N <= k
    ·exact Jj q
    ·rw [ZU (by omega)] at hτ; cases hτ
   ·exact jJ (by omega)
 ·obtain ⟨q1, q2, q3, q4⟩ := h.tok _ sp tI hsp
  refine ⟨q1, q2, q3, q4, h.cap _ _ hsp, λ t sp' hl hs e => ?_⟩
  obtain ⟨z1, z2⟩ := old t hl
  exact z2 (h.tinj t _ sp' sp z1 tI hs hsp e)
end
end
section
open Go.RowKit
def zC7 {α : Type} : Sem α -> Option α
 | .pure a => some a
 | .mark _ k => zC7 k
 | _ => none
theorem zog {P : Program} {α : Type} : ∀ (m : Sem α) (x : α) (w : World), zC7 m = some x -> m.run P w = .ok x w
 | .pure a, x, w, h => by cases h; rfl
 | .mark _ k, x, w, h => zog k x w h
def AV.flat : AV -> Option Value
 | .v x => some x
 | _ => none
def AS.fv (s : AS) (x : Operand) : Value := ((s.ev x).flat).getD undef
def ziY : Op -> Bool
 | .select .. => true
 | _ => false
def zab (o : Oper) (s : AS) : Option Value :=
 if ziY o.op then none else
 if o.op.operands.toList.all (λ x => (s.ev x).flat.isSome) then
  match zC7 (execOp s.fv o) with
  | some (.value v) => some v
  | _ => none
 else none
def cellsOf : AV -> Option (List AV)
 | .agg cs => some cs
 | .v x => if x.oneCell' then some [.v x] else none
 | .list n xs t => some [.list n xs t]
 | .ptr b off => some [.ptr b off]
 | .ref cs => some [.ref cs]
 | .fn f as1 bs => some [.fn f as1 bs]
 | .vs b off len n => some [.vs b off len n]
 | _ => none
def ze6 (d : TypeDesc) (x : AV) : Option AV :=
 match d with
 | .int k => (match x with | .v (.int k' n) => if k' = k then some (.v (.int k n)) else none | _ => none)
 | .bool => (match x with | .v (.bool b) => some (.v (.bool b)) | _ => none)
 | .string => (match x with | .v (.string s) => some (.v (.string s)) | _ => none)
 | .slice _ => (match x with | .list n xs t => some (.list n xs t) | .v (.slice a l c) => some (.v (.slice a l c)) | .vs b off len n => some (.vs b off len n) | _ => none)
 | _ => some x
theorem zad {d : TypeDesc} {x y : AV} (h : ze6 d x = some y) : y = x := by
 unfold ze6 at h
 repeat' split at h
 all_goals first | (cases h; done) | (cases h; rfl) | (rename_i hk; cases h; rw [hk]) | skip
def zw : TypeDesc -> Bool
 | .struct _ | .array _ _ => true
 | _ => false
structure Tab where
 u : TypeId -> Option TypeDesc
 i : TypeId -> Option (Nat × Nat)
 z : TypeId -> Option (List AV)
 q : TypeId -> Bool
 zv : TypeId -> Option Value
 bm : Nat -> Bool
def Pw (M : Mem) (ρ : Rho) (σ : Sig) (cc : Array Value) (cs : List AV) : Prop := cc.size = cs.length /\ (∀ i (h : i < cc.size), (cc[i]).oneCell' = true) /\ ∀ i (h : i < cc.size) (h' : i < cs.length), Rd M ρ σ cc[i] cs[i]
structure TabOk (P : Program) (T : Tab) : Prop where
 u : ∀ t d, T.u t = some d -> P.underlying t = some d
 i : ∀ t p, T.i t = some p -> ∃ i, P.info? t = some i /\ i.size = p.1 /\ i.bytes = p.2
 zv : ∀ t v, T.zv t = some v -> ∃ i, P.info? t = some i /\ i.zero = some v
 z : ∀ t z, T.z t = some z -> ∃ i v, P.info? t = some i /\ i.zero = some v /\ ∀ M ρ σ, Pw M ρ σ v.cells z
 q : ∀ t, T.q t = true -> P.stoodInHeld t = false /\ P.eqGuardType P.depth t = false
def ld (T : Tab) (t : TypeId) (cs : List AV) (off : Nat) : Option AV :=
 match T.u t with
 | some d =>
  if zw d then
   match T.i t with
   | some i => if off + i.1 <= cs.length then some (.agg ((cs.drop off).take i.1)) else none
   | none => none
  else
   match cs[off]? with
   | some x => ze6 d x
   | none => none
 | none => none
def AS.out (d : Option Nat) (v : AV) : List Wr := match d with
 | some d => [.env d v]
 | none => []
section
variable {P : Program} {T : Tab} {B : Base} {M : Mem} {ρ : Rho} {σ : Sig} {s : AS} {a : Act} {w : World}
theorem Zc {o : Oper} {K : Act -> World -> Prop} {Q : Exit -> Act -> World -> Prop} {v : Value} {w' : World} (h : (execOp a.eval o).run P w = .ok (.value v) w') (hk : K (a.put o.dst v) w') : o.wp P a w K Q := by
 unfold Oper.wp; rw [h]; exact hk
theorem zjm {o : Oper} {K : Act -> World -> Prop} {Q : Exit -> Act -> World -> Prop} {w' : World} (h : (execOp a.eval o).run P w = .ok .skip w') (hk : K (a.put o.dst undef) w') : o.wp P a w K Q := by
 unfold Oper.wp; rw [h]; exact hk
theorem SimW.out (h : SimW B M ρ σ s a w) {c : Value} {v : AV} (hr : Rd M ρ σ c v) (d : Option Nat) : SimW B M ρ σ (s.aps (AS.out d v)) (a.put d c) w := by
 cases d with
 | none => exact h
 | some d => exact h.put hr d
theorem SimW.flat (h : SimW B M ρ σ s a w) {x : Operand} (hx : (s.ev x).flat.isSome = true) : a.eval x = s.fv x := by
 have := h.ev x
 unfold AS.fv
 generalize a.eval x = c at this |-
 cases he : s.ev x with
 | v c => rw [he] at this; cases this; rfl
 | _ => rw [he] at hx; simp [AV.flat] at hx
theorem znw (h : SimW B M ρ σ s a w) {o : Oper} {v : Value} (hf : zab o s = some v) : (execOp a.eval o).run P w = .ok (.value v) w := by
 unfold zab at hf
 split at hf
 ·cases hf
 ·rename_i hsel
  split at hf
  ·rename_i hall
   have e : execOp a.eval o = execOp s.fv o := execOp_congr o (λ cs b hc => hsel (by rw [hc]; rfl)) λ x hx => h.flat (List.all_eq_true.1 hall x (by simpa using hx))
   rw [e]
   split at hf
   ·rename_i v' hr
    cases hf
    exact zog _ _ w hr
   ·cases hf
  ·cases hf
theorem ze {t : TypeId} {d : TypeDesc} (hu : P.underlying t = some d) (w : World) : (underlying t).run P w = .ok d w := by
 simp [underlying, hu]
theorem ZZ {t : TypeId} {i : TypeInfo} (hi : P.info? t = some i) (w : World) : (typeInfo t).run P w = .ok i w := by
 simp [typeInfo, hi]
theorem zk {t : TypeId} {i : TypeInfo} (hi : P.info? t = some i) (w : World) : (sizeOf t).run P w = .ok i.size w := by
 simp [sizeOf, ZZ hi]
theorem Zj {t : TypeId} {d : TypeDesc} (hu : P.underlying t = some d) (w : World) : (isAgg t).run P w = .ok (zw d) w := by
 unfold isAgg
 simp only [Sem.run_bind, ze hu, Result.andThen_ok]
 cases d <;> rfl
def zCo (M : Mem) (ρ : Rho) (σ : Sig) (w : World) (g off : Nat) (cs : List AV) : Prop := ∃ cf : Nat -> Value, (∀ j, j < cs.length -> w.cell? ⟨g, off + j, none⟩ = some (cf j)) /\ (∀ j, j < cs.length -> (cf j).oneCell' = true) /\ ∀ j (h : j < cs.length), Rd M ρ σ (cf j) cs[j]
theorem zpS (hT : TabOk P T) {t : TypeId} {g off0 off : Nat} {cs : List AV} {y : AV} (hl : zCo M ρ σ w g off0 cs) (h : ld T t cs off = some y) : ∃ c, (loadVar t ⟨g, off0 + off, none⟩).run P w = .ok c w /\ Rd M ρ σ c y := by
 obtain ⟨cf, h1, h2, h3⟩ := hl
 unfold ld at h
 split at h
 ·rename_i d hu
  replace hu := hT.u _ _ hu
  split at h
  ·rename_i hrow
   split at h
   ·rename_i p hi
    obtain ⟨i, hi, hp1, hp2⟩ := hT.i _ _ hi
    rw [<- hp1] at h
    split at h
    ·rename_i hle
     cases h
     have hc := run_loadCells (P := P) w ⟨g, off0 + off, none⟩ i.size (λ j => cf (off + j)) (λ j hj => by rw [Addr.add_mid, Nat.add_assoc]; exact h1 (off + j) (by omega))
     refine ⟨.agg ((List.range i.size).map λ j => cf (off + j)).toArray, ?_, ?_⟩
     ·unfold loadVar
      simp only [Sem.run_bind, Zj hu, Result.andThen_ok, hrow, if_true, zk hi, hc, Sem.run_pure]
     ·refine .agg (by simp; omega) (λ j hj => ?_) (λ j hj hj' => ?_)
      ·simp at hj; simpa using h2 (off + j) (by omega)
      ·simp at hj; simpa using h3 (off + j) (by omega)
    ·cases h
   ·cases h
  ·rename_i hrow
   split at h
   ·rename_i x hx
    obtain rfl := zad h
    obtain ⟨hlt, hx'⟩ := List.getElem?_eq_some_iff.1 hx
    refine ⟨cf off, ?_, by rw [<- hx']; exact h3 off hlt⟩
    have hrow' : zw d = false := by cases hq : zw d <;> simp_all
    unfold loadVar
    simp only [Sem.run_bind, Zj hu, Result.andThen_ok, hrow', Bool.false_eq_true, if_false]
    simp [load, Sem.run, h1 off hlt]
   ·cases h
 ·cases h
theorem SimW.lies (h : SimW B M ρ σ s a w) {b g : Nat} {cs : List AV} (hb : s.bx b = some cs) (hmp : Z8 b = false) (hg : ρ b = some g) : zCo M ρ σ w g 0 cs := by
 rcases h.box b cs hb with ⟨-, e⟩ | ⟨g', hg', hh0, -⟩
 ·rw [hg] at e; cases e
 rw [hg] at hg'
 cases hg'
 obtain ⟨ccs, t, h1, h2, h3, h4⟩ := hh0.cells hmp
 refine ⟨λ j => ccs.getD j undef, λ j hj => ?_, λ j hj => ?_, λ j hj => ?_⟩
 ·have hj' : j < ccs.size := by omega
  rw [zY h1, Nat.zero_add]; simp [Array.getD, hj']
 ·have hj' : j < ccs.size := by omega
  simpa [Array.getD, hj'] using h3 j (by omega) hj
 ·have hj' : j < ccs.size := by omega
  simpa [Array.getD, hj'] using h4 j (by omega) hj
theorem zeT {c : Value} {v : AV} {l : List AV} (hr : Rd M ρ σ c v) (hc : cellsOf v = some l) : c.cells.size = l.length /\ (∀ i (h : i < c.cells.size), (c.cells[i]).oneCell' = true) /\ ∀ i (h : i < c.cells.size) (h' : i < l.length), Rd M ρ σ c.cells[i] l[i] := by
 cases hr with
 | agg hl h1 hr => cases hc; exact ⟨hl, h1, hr⟩
 | v =>
  simp only [cellsOf] at hc
  split at hc
  ·rename_i h1
   cases hc
   have e : c.cells = #[c] := by cases c <;> first | rfl | (simp [Value.oneCell'] at h1)
   rw [e]
   exact ⟨rfl, λ i hi => by simpa using h1, λ i hi hi' => by simpa using Rd.v⟩
  ·cases hc
 | nil => cases hc; exact ⟨rfl, λ i hi => by simp [Value.cells, Value.oneCell'], λ i hi hi' => by simpa [Value.cells] using Rd.nil⟩
 | list cf hl hcap hn hm ho hr ht => cases hc; exact ⟨rfl, λ i hi => by simp [Value.cells, Value.oneCell'], λ i hi hi' => by simpa [Value.cells] using Rd.list cf hl hcap hn hm ho hr ht⟩
 | ptr hp => cases hc; exact ⟨rfl, λ i hi => by simp [Value.cells, Value.oneCell'], λ i hi hi' => by simpa [Value.cells] using Rd.ptr hp⟩
 | ref cf hm ho hr => cases hc; exact ⟨rfl, λ i hi => by simp [Value.cells, Value.oneCell'], λ i hi hi' => by simpa [Value.cells] using Rd.ref cf hm ho hr⟩
 | fn h1 h2 h3 h4 => cases hc; exact ⟨rfl, λ i hi => by simp [Value.cells, Value.oneCell'], λ i hi hi' => by simpa [Value.cells] using Rd.fn h1 h2 h3 h4⟩
 | vs h1 h2 h3 => cases hc; exact ⟨rfl, λ i hi => by simp [Value.cells, Value.oneCell'], λ i hi hi' => by simpa [Value.cells] using Rd.vs h1 h2 h3⟩
 | vsn => cases hc; exact ⟨rfl, λ i hi => by simp [Value.cells, Value.oneCell'], λ i hi hi' => by simpa [Value.cells] using Rd.vsn⟩
 | vse => cases hc; exact ⟨rfl, λ i hi => by simp [Value.cells, Value.oneCell'], λ i hi hi' => by simpa [Value.cells] using Rd.vse⟩
 | any => cases hc
 | ub => cases hc
 | mref => cases hc
 | tup => cases hc
end
end
section
open Go.RowKit
def shL (k : IntKind) (x y : Int) : Int := k.wrap (x * 2 ^ (min y.toNat k.bits))
def shR (k : IntKind) (x y : Int) : Int := x.fdiv (2 ^ (min y.toNat k.bits))
def zcU (T : Tab) : Nat -> TypeId -> Option (List TypeDesc)
 | 0, _ => none
 | f + 1, t =>
  match T.u t with
  | some (.struct fs) => fs.toList.foldr (λ fd acc => match zcU T f fd.type, acc with | some a, some b => some (a ++ b) | _, _ => none) (some [])
  | some (.array n e) => (match zcU T f e with | some a => some ((List.replicate n a).flatten) | none => none)
  | some d => some [d]
  | none => none
def Zf (n : Nat) : AV -> Option (List (List AV))
 | .list m xs _ => if m = n then some xs else none
 | .v (.slice none 0 0) => some []
 | _ => none
def datC (T : Tab) (d : TypeDesc) (x : AV) : Option AV :=
 match d with
 | .slice e => (match T.i e with | some i => (match Zf i.1 x with | some xs => some (.list i.1 xs none) | none => none) | none => none)
 | d => ze6 d x
def zuz (T : Tab) : List TypeDesc -> List AV -> Nat -> Option (List AV)
 | [], _, _ => some []
 | d :: ds, cs, off => match cs[off]? with
  | some x => (match datC T d x with
   | some v => (match zuz T ds cs (off + 1) with | some vs => some (v :: vs) | none => none)
   | none => none)
  | none => none
def ldD (T : Tab) (t : TypeId) (cs : List AV) (off : Nat) : Option AV :=
 match T.u t with
 | some d =>
  if zw d then
   match T.i t, zcU T 12 t with
   | some i, some ds => if i.1 = ds.length /\ 0 < i.1 then (match zuz T ds cs off with | some vs => some (.agg vs) | none => none) else none
   | _, _ => none
  else
   match cs[off]? with
   | some x => datC T d x
   | none => none
 | none => none
def zgq : List (List AV) -> Option (List Int)
 | [] => some []
 | [.v (.int .u8 n)] :: r => (match zgq r with | some l => some (n :: l) | none => none)
 | _ => none
def zn (T : Tab) (s : AS) : Op -> Option AV
 | .move x | .assign x => some (s.ev x)
 | .pick c x y =>
  match s.ev c with
  | .v (.bool c) =>
   (match s.ev x, s.ev y with
   | .v (.bool p), .v (.bool q) => some (.v (.bool (bif c then p else q)))
   | p, q => some (bif c then p else q))
  | _ => none
 | .load t x =>
  match s.ev x with
  | .ptr b off => (match s.cx b with | some cs => (match s.tk (vm b) with | some _ => ldD T t cs off | none => ld T t cs off) | none => none)
  | .ref cs => ldD T t cs 0
  | _ => none
 | .nilCheck x =>
  match s.ev x with
  | .ptr b off => some (.ptr b off)
  | .ref cs => some (.ref cs)
  | .fn (.func f) as1 bs => some (.fn (.func f) as1 bs)
  | _ => none
 | .fieldAddr t x f =>
  match T.u t with
  | some (.struct fs) =>
   (match fs[f]? with
   | some fd =>
    (match T.i fd.type with
    | some i =>
     if i.1 = 0 then none else
     (match s.ev x with
     | .ptr b off => some (.ptr b (off + fd.offset))
     | .ref cs => some (.ref (cs.drop fd.offset))
     | _ => none)
    | none => none)
   | none => none)
  | _ => none
 | .indexAddr t x ix =>
  match T.u t, s.ev ix with
  | some (.slice e), .v (.int k i) =>
   (match T.i e, s.ev x with
   | some inf, .list n xs tk =>
    if inf.1 = n then
     if 0 <= i then (match xs[i.toNat]? with | some c => some (.ref c) | none => none) else none
    else none
   | some inf, .vs b off len n => if inf.1 = n then (if 0 <= i /\ i < len then some (.ptr b ((off + i.toNat) * inf.1)) else none) else none
   | _, _ => none)
  | some (.array len e), .v (.int k i) =>
   (match T.i e, s.ev x with
   | some inf, .ptr b off => if 0 <= i /\ i < len then some (.ptr b (off + i.toNat * inf.1)) else none
   | some inf, .ref cs => if 0 <= i /\ i < len then some (.ref (cs.drop (i.toNat * inf.1))) else none
   | _, _ => none)
  | _, _ => none
 | .field t x f =>
  match T.u t with
  | some (.struct fs) =>
   (match fs[f]?, s.ev x with
   | some fd, .agg cs => ld T fd.type cs fd.offset
   | _, _ => none)
  | _ => none
 | .extract x i =>
  match s.ev x with
  | .tup vs => vs[i]?
  | _ => none
 | .makeFunc fn first captured => some (.fn fn (first.toList.map s.ev) (captured.toList.map s.ev))
 | .call { callee := .builtin .len, args, argTypes } =>
  match args.toList, argTypes.toList with
  | [x], [t] =>
   (match s.ev x, T.u t with
   | .list n xs tk, some (.slice _) => some (.v (.int .i64 xs.length))
   | .vs b off len n, some (.slice _) => some (.v (.int .i64 len))
   | .v (.slice a n c), some (.slice _) => some (.v (.int .i64 n))
   | .v (.string b), some .string => some (.v (.int .i64 b.size))
   | _, _ => none)
  | _, _ => none
 | .binOp op t x y _ =>
  match op, s.ev x, s.ev y with
  | .quo, .v (.int k a), .v (.int k' b) => if k = k' then (if b = 0 then none else some (.v (.int k (k.wrap (a.tdiv b))))) else none
  | .rem, .v (.int k a), .v (.int k' b) => if k = k' then (if b = 0 then none else some (.v (.int k (a.tmod b)))) else none
  | .add, .v (.string a), .v (.string b) => if a.size + b.size <= 9223372036854775807 then some (.v (.string (a ++ b))) else none
  | .add, .v (.int k a), .v (.int k' b) => if k = k' then some (.v (.int k (k.wrap (a + b)))) else none
  | .shl, .v (.int k a), .v (.int k' b) => if b < 0 then none else some (.v (.int k (shL k a b)))
  | .shr, .v (.int k a), .v (.int k' b) => if b < 0 then none else some (.v (.int k (shR k a b)))
  | _, _, _ => none
 | .convert src dst x =>
  match T.u src, T.u dst, s.ev x with
  | some (.int _), some (.int k), .v (.int _ n) => some (.v (.int k (k.wrap n)))
  | some .string, some .string, .v (.string b) => some (.v (.string b))
  | some (.slice e), some .string, .list n xs _ => (match T.u e with | some (.int .u8) => if n = 1 then (match zgq xs with | some ns => some (.v (.string (strOfNums ns))) | none => none) else none | _ => none)
  | _, _, _ => none
 | .index t x ix =>
  match T.u t, s.ev x, s.ev ix with
  | some .string, .v (.string b), .v (.int k i) => if 0 <= i then (match b[i.toNat]? with | some c => some (.v (.int .u8 c.toNat)) | none => none) else none
  | some (.array len e), .agg cs, .v (.int k i) => if 0 <= i /\ i < len then (match T.i e with | some inf => ld T e cs (i.toNat * inf.1) | none => none) else none
  | _, _, _ => none
 | .slice t x lo hi none =>
  match T.u t, s.ev x with
  | some (.slice e), .list n xs tk =>
   (match T.i e with
   | some inf =>
    if inf.1 = n then
     (match lo.map s.ev, hi.map s.ev with
     | none, none => some (.list n xs tk)
     | some (.v (.int _ l)), none => if 0 <= l /\ l <= xs.length then some (.list n (xs.drop l.toNat) tk) else none
     | none, some (.v (.int _ h)) => if 0 <= h /\ h <= xs.length then some (.list n (xs.take h.toNat) none) else none
     | some (.v (.int _ l)), some (.v (.int _ h)) => if 0 <= l /\ l <= h /\ h <= xs.length then some (.list n ((xs.take h.toNat).drop l.toNat) none) else none
     | _, _ => none)
    else none
   | none => none)
  | some (.slice e), .vs b off len n =>
   (match T.i e with
   | some inf =>
    if inf.1 = n then
     (match lo.map s.ev, hi.map s.ev with
     | none, none => some (.vs b off len n)
     | some (.v (.int _ l)), none => if 0 <= l /\ l <= len then some (.vs b (off + l.toNat) (len - l.toNat) n) else none
     | none, some (.v (.int _ h)) => if 0 <= h /\ h <= len then some (.vs b off h.toNat n) else none
     | some (.v (.int _ l)), some (.v (.int _ h)) => if 0 <= l /\ l <= h /\ h <= len then some (.vs b (off + l.toNat) (h.toNat - l.toNat) n) else none
     | _, _ => none)
    else none
   | none => none)
  | some .string, .v (.string b) =>
   (match lo.map s.ev, hi.map s.ev with
   | none, none => some (.v (.string (b.extract 0 b.size)))
   | some (.v (.int _ l)), none => if 0 <= l /\ l <= b.size then some (.v (.string (b.extract l.toNat b.size))) else none
   | none, some (.v (.int _ h)) => if 0 <= h /\ h <= b.size then some (.v (.string (b.extract 0 h.toNat))) else none
   | some (.v (.int _ l)), some (.v (.int _ h)) => if 0 <= l /\ l <= h /\ h <= b.size then some (.v (.string (b.extract l.toNat h.toNat))) else none
   | _, _ => none)
  | _, _ => none
 | _ => none
section
variable {P : Program} {T : Tab} {B : Base} {M : Mem} {ρ : Rho} {σ : Sig} {s : AS} {a : Act} {w : World}
def Ze (P : Program) (M : Mem) (ρ : Rho) (σ : Sig) (a : Act) (w : World) (o : Oper) (v : AV) : Prop := ∃ c, (execOp a.eval o).run P w = .ok (.value c) w /\ Rd M ρ σ c v
theorem zgz (h : SimW B M ρ σ s a w) {o : Oper} {x : Operand} (ho : o.op = .move x \/ o.op = .assign x) : Ze P M ρ σ a w o (s.ev x) :=
 ⟨a.eval x, by rcases ho with ho | ho <;> (unfold execOp; simp only [ho]; rfl), h.ev x⟩
theorem zon (h : SimW B M ρ σ s a w) {o : Oper} {c x y : Operand} (ho : o.op = .pick c x y) {v : AV} (hs : zn T s (.pick c x y) = some v) : Ze P M ρ σ a w o v := by
 have hc := h.ev c
 have hx := h.ev x
 have hy := h.ev y
 simp only [zn] at hs
 split at hs
 ·rename_i b hb
  rw [hb] at hc
  generalize hq : a.eval c = cv at hc
  cases hc
  refine ⟨if b then a.eval x else a.eval y, ?_, ?_⟩
  ·unfold execOp; simp only [ho, hq]; cases b <;> rfl
  ·split at hs
   ·rename_i p q hp hq'
    cases hs
    rw [hp] at hx
    rw [hq'] at hy
    generalize a.eval x = xv at hx |-
    generalize a.eval y = yv at hy |-
    cases hx
    cases hy
    cases b <;> exact .v
   ·cases hs
    cases b
    ·exact hy
    ·exact hx
 ·cases hs
theorem Rd.datC {d : TypeDesc} {c : Value} {x y : AV} (h : Rd M ρ σ c x) (hd : datC T d x = some y) : Rd M ρ σ c y := by
 unfold Go.Proofs.YthdgnfcbehcplaaGreatDoor.datC at hd
 split at hd
 ·split at hd
  ·rename_i i hi
   split at hd
   ·rename_i xs hl
    cases hd
    unfold Zf at hl
    split at hl
    ·split at hl
     ·rename_i hm
      cases hl
      subst hm
      cases h with
      | nil => exact .nil
      | list cf h1 h2 h3 h4 h5 h6 h7 => exact .list cf h1 h2 h3 h4 h5 h6 .none
     ·cases hl
    ·cases hl
     cases h
     exact .nil
    ·cases hl
   ·cases hd
  ·cases hd
 ·rw [zad hd]; exact h
theorem zf7 : ∀ (ds : List TypeDesc) (cs : List AV) (off : Nat) (vs : List AV), zuz T ds cs off = some vs -> vs.length = ds.length /\ off + ds.length <= max off cs.length /\ ∀ i (h : i < vs.length), ∃ d x, cs[off + i]? = some x /\ datC T d x = some vs[i]
 | [], cs, off, vs, h => by cases h; exact ⟨rfl, by simp; omega, λ i h => by cases h⟩
 | d :: ds, cs, off, vs, h => by
  unfold zuz at h
  split at h
  ·rename_i x hx
   split at h
   ·rename_i v hv
    split at h
    ·rename_i r hr
     cases h
     obtain ⟨q1, q2, q3⟩ := zf7 ds cs (off + 1) r hr
     have := (List.getElem?_eq_some_iff.1 hx).1
     refine ⟨by simp [q1], by simp; omega, λ i hi => ?_⟩
     cases i with
     | zero => exact ⟨d, x, hx, hv⟩
     | succ i =>
      obtain ⟨d', x', e1, e2⟩ := q3 i (by simpa using hi)
      exact ⟨d', x', by rw [<- e1]; congr 1; omega, e2⟩
    ·cases h
   ·cases h
  ·cases h
theorem zsa (hT : TabOk P T) {t : TypeId} {g off0 off : Nat} {cs : List AV} {y : AV} (hl : zCo M ρ σ w g off0 cs) (h : ldD T t cs off = some y) : ∃ c, (loadVar t ⟨g, off0 + off, none⟩).run P w = .ok c w /\ Rd M ρ σ c y := by
 unfold ldD at h
 split at h
 ·rename_i d hu
  split at h
  ·rename_i hrow
   split at h
   ·rename_i i ds hi hds
    split at h
    ·rename_i hc
     split at h
     ·rename_i vs hvs
      cases h
      obtain ⟨q1, q2, q3⟩ := zf7 ds cs off vs hvs
      obtain ⟨c, h1, h2⟩ := zpS (P := P) (t := t) (off := off) (y := .agg ((cs.drop off).take i.1)) hT hl (by
       have := hc.1
       have := hc.2
       simp only [ld, hu, hrow, if_true, hi]
       rw [if_pos (by omega)])
      refine ⟨c, h1, ?_⟩
      cases h2 with
      | agg z1 z2 z3 =>
       have hlen : ((cs.drop off).take i.1).length = i.1 := by
        have := hc.1
        have := hc.2
        simp; omega
       refine .agg (by rw [z1, hlen, q1, hc.1]) z2 λ j hj hj' => ?_
       obtain ⟨d', x, e1, e2⟩ := q3 j hj'
       have := z3 j hj (by omega)
       obtain ⟨e3, e4⟩ := List.getElem?_eq_some_iff.1 e1
       have e5 : ((cs.drop off).take i.1)[j]'(by omega) = x := by simp [e4]
       rw [e5] at this
       exact this.datC e2
     ·cases h
    ·cases h
   ·cases h
  ·rename_i hrow
   split at h
   ·rename_i x hx
    obtain ⟨cf, h1, h2, h3⟩ := hl
    obtain ⟨hlt, hx'⟩ := List.getElem?_eq_some_iff.1 hx
    have hr := h3 off hlt
    rw [hx'] at hr
    refine ⟨cf off, ?_, hr.datC h⟩
    have hrow' : zw d = false := by cases hq : zw d <;> simp_all
    unfold loadVar
    simp only [Sem.run_bind, Zj (hT.u _ _ hu), Result.andThen_ok, hrow', Bool.false_eq_true, if_false]
    simp [load, Sem.run, h1 off hlt]
   ·cases h
 ·cases h
theorem zom (hT : TabOk P T) (h : SimW B M ρ σ s a w) {o : Oper} {t : TypeId} {x : Operand} (ho : o.op = .load t x) {v : AV} (hs : zn T s (.load t x) = some v) : Ze P M ρ σ a w o v := by
 have hx := h.ev x
 simp only [zn] at hs
 have key : ∀ g off c, a.eval x = .pointer (some ⟨g, off, none⟩) -> (loadVar t ⟨g, off, none⟩).run P w = .ok c w -> (execOp a.eval o).run P w = .ok (.value c) w := λ g off c e1 e2 => by
  unfold execOp
  simp only [ho, e1, Instr.loadAt, Instr.sureAddr, Sem.run_bind, Sem.run_pure, Result.andThen_ok, e2]
 split at hs
 ·rename_i b off hb
  rw [hb] at hx
  split at hs
  ·rename_i cs hcs
   obtain ⟨hcs, hnm⟩ := AS.cx_some hcs
   generalize hq : a.eval x = xv at hx
   cases hx with
   | ptr hg =>
    split at hs
    ·obtain ⟨c, h1, h2⟩ := zsa hT (h.lies hcs hnm hg) hs
     rw [Nat.zero_add] at h1
     exact ⟨c, key _ _ _ hq h1, h2⟩
    ·obtain ⟨c, h1, h2⟩ := zpS hT (h.lies hcs hnm hg) hs
     rw [Nat.zero_add] at h1
     exact ⟨c, key _ _ _ hq h1, h2⟩
  ·cases hs
 ·rename_i cs hb
  rw [hb] at hx
  generalize hq : a.eval x = xv at hx
  cases hx with
  | ref cf hm ho' hr =>
   obtain ⟨c, h1, h2⟩ := zsa (P := P) (ρ := ρ) (σ := σ) hT ⟨cf, λ j hj => h.mem _ _ _ (hm j hj), λ j _ => ho' j, λ j hj => (hr j hj).of0⟩ hs
   exact ⟨c, key _ _ _ hq h1, h2⟩
 ·cases hs
theorem zfq (h : SimW B M ρ σ s a w) {o : Oper} {x : Operand} (ho : o.op = .nilCheck x) {v : AV} (hs : zn T s (.nilCheck x) = some v) : Ze P M ρ σ a w o v := by
 have hx := h.ev x
 simp only [zn] at hs
 refine ⟨a.eval x, ?_, ?_⟩
 ·split at hs
  ·rename_i hb
   rw [hb] at hx
   generalize hq : a.eval x = xv at hx
   cases hx
   unfold execOp; simp only [ho, hq]; rfl
  ·rename_i hb
   rw [hb] at hx
   generalize hq : a.eval x = xv at hx
   cases hx
   unfold execOp; simp only [ho, hq]; rfl
  ·rename_i hb
   rw [hb] at hx
   generalize hq : a.eval x = xv at hx
   cases hx
   unfold execOp; simp only [ho, hq]; rfl
  ·cases hs
 ·split at hs
  ·rename_i hb; rw [hb] at hx; cases hs; exact hx
  ·rename_i hb; rw [hb] at hx; cases hs; exact hx
  ·rename_i hb; rw [hb] at hx; cases hs; exact hx
  ·cases hs
theorem Rd.drop {g off k : Nat} {cs : List AV} (h : Rd M ρ σ (.pointer (some ⟨g, off, none⟩)) (.ref cs)) : Rd M ρ σ (.pointer (some ⟨g, off + k, none⟩)) (.ref (cs.drop k)) := by
 cases h with
 | ref cf hm ho hr =>
  refine .ref (λ j => cf (k + j)) (λ j hj => ?_) (λ j => ho _) (λ j hj => ?_)
  ·rw [Nat.add_assoc]; exact hm (k + j) (by simp at hj; omega)
  ·simpa using hr (k + j) (by simp at hj; omega)
theorem zdo (hT : TabOk P T) (h : SimW B M ρ σ s a w) {o : Oper} {t : TypeId} {x : Operand} {f : Nat} (ho : o.op = .fieldAddr t x f) {v : AV} (hs : zn T s (.fieldAddr t x f) = some v) : Ze P M ρ σ a w o v := by
 have hx := h.ev x
 simp only [zn] at hs
 split at hs
 ·rename_i fs hu
  replace hu := hT.u _ _ hu
  split at hs
  ·rename_i fd hf
   split at hs
   ·rename_i p hi
    obtain ⟨i, hi, hp1, hp2⟩ := hT.i _ _ hi
    rw [<- hp1] at hs
    split at hs
    ·cases hs
    ·rename_i hsz
     have key : ∀ g off, a.eval x = .pointer (some ⟨g, off, none⟩) -> (execOp a.eval o).run P w = .ok (.value (.pointer (some ⟨g, off + fd.offset, none⟩))) w := λ g off e1 => by
      unfold execOp
      simp only [ho, e1, Instr.fieldAt, Instr.sureAddr, Sem.run_bind, Sem.run_pure, Result.andThen_ok, ze hu, hf, fieldPlace, zk hi, hsz, if_false, Addr.add_mid]
     split at hs
     ·rename_i hb
      rw [hb] at hx
      generalize hq : a.eval x = xv at hx
      cases hx with
      | ptr hg => cases hs; exact ⟨_, key _ _ hq, .ptr hg⟩
     ·rename_i hb
      rw [hb] at hx
      generalize hq : a.eval x = xv at hx
      cases hs
      cases hx with
      | ref cf hm ho' hr => exact ⟨_, key _ _ hq, Rd.drop (.ref cf hm ho' hr)⟩
     ·cases hs
   ·cases hs
  ·cases hs
 ·cases hs
theorem zkn (hT : TabOk P T) (h : SimW B M ρ σ s a w) {o : Oper} {t : TypeId} {x : Operand} {f : Nat} (ho : o.op = .field t x f) {v : AV} (hs : zn T s (.field t x f) = some v) : Ze P M ρ σ a w o v := by
 have hx := h.ev x
 simp only [zn] at hs
 split at hs
 ·rename_i fs hu
  replace hu := hT.u _ _ hu
  split at hs
  ·rename_i fd cs hf hb
   rw [hb] at hx
   generalize hq : a.eval x = xv at hx
   cases hx with
   | agg hl h1 hr =>
    rename_i ccs
    have run : ∀ c, (part fd.type ccs fd.offset).run P w = .ok c w -> (execOp a.eval o).run P w = .ok (.value c) w := λ c hc => by
     unfold execOp
     simp only [ho, hq, Instr.field, asAgg, Sem.run_bind, Sem.run_pure, Result.andThen_ok, ze hu, hf, hc]
    unfold ld at hs
    split at hs
    ·rename_i d hd
     replace hd := hT.u _ _ hd
     split at hs
     ·rename_i hrow
      split at hs
      ·rename_i p hi
       obtain ⟨i, hi, hp1, hp2⟩ := hT.i _ _ hi
       rw [<- hp1] at hs
       split at hs
       ·rename_i hle
        cases hs
        refine ⟨.agg (ccs.extract fd.offset (fd.offset + i.size)), run _ ?_, .agg (by simp; omega) (λ j hj => ?_) (λ j hj hj' => ?_)⟩
        ·unfold part
         simp only [Sem.run_bind, Zj hd, Result.andThen_ok, hrow, if_true, zk hi, Sem.run_pure]
        ·simp at hj; simpa using h1 (fd.offset + j) (by omega)
        ·simp at hj; simpa using hr (fd.offset + j) (by omega) (by omega)
       ·cases hs
      ·cases hs
     ·rename_i hrow
      split at hs
      ·rename_i y hy
       obtain rfl := zad hs
       obtain ⟨hlt, hy'⟩ := List.getElem?_eq_some_iff.1 hy
       have hrow' : zw d = false := by cases hq : zw d <;> simp_all
       refine ⟨ccs[fd.offset]'(by omega), run _ ?_, by rw [<- hy']; exact hr _ _ _⟩
       unfold part
       simp only [Sem.run_bind, Zj hd, Result.andThen_ok, hrow', Bool.false_eq_true, if_false]
       rw [Array.getElem?_eq_getElem (by omega : fd.offset < ccs.size)]
       rfl
      ·cases hs
    ·cases hs
  ·cases hs
 ·cases hs
theorem zgy (h : SimW B M ρ σ s a w) {o : Oper} {x : Operand} {i : Nat} (ho : o.op = .extract x i) {v : AV} (hs : zn T s (.extract x i) = some v) : Ze P M ρ σ a w o v := by
 have hx := h.ev x
 simp only [zn] at hs
 split at hs
 ·rename_i vs hb
  rw [hb] at hx
  generalize hq : a.eval x = xv at hx
  cases hx with
  | tup hl hr =>
   rename_i ccs
   obtain ⟨hlt, hy'⟩ := List.getElem?_eq_some_iff.1 hs
   refine ⟨ccs[i]'(by omega), ?_, by rw [<- hy']; exact hr _ _ _⟩
   unfold execOp
   simp only [ho, hq, Instr.extract]
   rw [Array.getElem?_eq_getElem (by omega : i < ccs.size)]
   rfl
 ·cases hs
theorem zfp (h : SimW B M ρ σ s a w) {o : Oper} {fn : Fn} {first captured : Array Operand} (ho : o.op = .makeFunc fn first captured) {v : AV} (hs : zn T s (.makeFunc fn first captured) = some v) : Ze P M ρ σ a w o v := by
 simp only [zn] at hs
 cases hs
 refine ⟨.func fn (first.map a.eval) (captured.map a.eval), ?_, .fn (by simp) (λ i h1 h2 => ?_) (by simp) (λ i h1 h2 => ?_)⟩
 ·unfold execOp; simp only [ho]; rfl
 ·simpa using h.ev _
 ·simpa using h.ev _
theorem zqt (hT : TabOk P T) (h : SimW B M ρ σ s a w) {o : Oper} {args : Array Operand} {argTypes : Array TypeId} (ho : o.op = .call { callee := .builtin .len, args, argTypes }) {v : AV} (hs : zn T s (.call { callee := .builtin .len, args, argTypes }) = some v) : Ze P M ρ σ a w o v := by
 simp only [zn] at hs
 split at hs
 ·rename_i x t ha ht
  have ea : args = #[x] := by rw [<- Array.toList_inj]; exact ha
  have et : argTypes = #[t] := by rw [<- Array.toList_inj]; exact ht
  subst ea et
  have hx := h.ev x
  have key : ∀ c, (Builtin.len_ #[t] o.type #[a.eval x]).run P w = .ok c w -> (execOp a.eval o).run P w = .ok (.value c) w := λ c hc => by
   unfold execOp
   simp only [ho, resolve, Sem.run_bind, Sem.run_pure, Result.andThen_ok, invoke, builtin]
   simp [hc]
  split at hs
  ·rename_i n xs tk e hb hu
   replace hu := hT.u _ _ hu
   rw [hb] at hx
   generalize hq : a.eval x = xv at hx
   cases hs
   cases hx with
   | nil => exact ⟨_, key _ (by rw [hq]; simp [Builtin.len_, ze hu]; rfl), .v⟩
   | list cf hl hc hn hm ho' hr ht => exact ⟨_, key _ (by rw [hq]; simp [Builtin.len_, ze hu, <- hl]; rfl), .v⟩
  ·rename_i hb hu
   replace hu := hT.u _ _ hu
   rw [hb] at hx
   generalize hq : a.eval x = xv at hx
   cases hs
   cases hx with
   | vs h1 h2 h3 => exact ⟨_, key _ (by rw [hq]; simp [Builtin.len_, ze hu]; rfl), .v⟩
   | vsn => exact ⟨_, key _ (by rw [hq]; simp [Builtin.len_, ze hu]; rfl), .v⟩
   | vse => exact ⟨_, key _ (by rw [hq]; simp [Builtin.len_, ze hu]; rfl), .v⟩
  ·rename_i hb hu
   replace hu := hT.u _ _ hu
   rw [hb] at hx
   generalize hq : a.eval x = xv at hx
   cases hs
   cases hx
   exact ⟨_, key _ (by rw [hq]; simp [Builtin.len_, ze hu]; rfl), .v⟩
  ·rename_i hb hu
   replace hu := hT.u _ _ hu
   rw [hb] at hx
   generalize hq : a.eval x = xv at hx
   cases hs
   cases hx
   exact ⟨_, key _ (by rw [hq]; simp [Builtin.len_, ze hu]; rfl), .v⟩
  ·cases hs
 ·cases hs
end
end
section
open Go.RowKit
section
variable {P : Program} {T : Tab} {B : Base} {M : Mem} {ρ : Rho} {σ : Sig} {s : AS} {a : Act} {w : World}
theorem Rd.int_inv {k : IntKind} {i : Int} {c : Value} (h : Rd M ρ σ c (.v (.int k i))) : c = .int k i := by cases h; rfl
theorem Rd.v_inv {x c : Value} (h : Rd M ρ σ c (.v x)) : c = x := by cases h; rfl
theorem zdp (hT : TabOk P T) (h : SimW B M ρ σ s a w) {o : Oper} {t : TypeId} {x ix : Operand} (ho : o.op = .indexAddr t x ix) {v : AV} (hs : zn T s (.indexAddr t x ix) = some v) : Ze P M ρ σ a w o v := by
 have hx := h.ev x
 have hi := h.ev ix
 simp only [zn] at hs
 split at hs
 ·rename_i e k i hu hix
  replace hu := hT.u _ _ hu
  rw [hix] at hi
  have ei := hi.int_inv
  split at hs
  ·rename_i p n xs tk hinf hb
   obtain ⟨inf, hinf, hp1, hp2⟩ := hT.i _ _ hinf
   rw [<- hp1] at hs
   rw [hb] at hx
   split at hs
   ·rename_i hsz
    split at hs
    ·rename_i h0
     split at hs
     ·rename_i c hc
      cases hs
      obtain ⟨hlt, hce⟩ := List.getElem?_eq_some_iff.1 hc
      generalize hq : a.eval x = xv at hx
      cases hx with
      | nil => cases hlt
      | @list _ _ g off len cap _ _ _ cf hl hcap hn hm ho' hr ht =>
       refine ⟨.pointer (some ⟨g, off + i.toNat * n, none⟩), ?_, .ref (λ j => cf i.toNat j) (λ j hj => hm _ _ hlt (by rw [<- hn _ hlt, hce]; exact hj)) (λ j => ho' _ _) (λ j hj => ?_)⟩
       ·have h1 : 0 <= i /\ i < (len : Int) := ⟨h0, by omega⟩
        unfold execOp
        simp only [ho, hq, ei, Instr.indexAt, asIntOf, Sem.run_bind, Sem.run_pure, Result.andThen_ok, ze hu, h1, and_self, if_true, zk hinf, Addr.add_mid, hsz]
       ·subst hce; exact hr _ _ hlt hj
     ·cases hs
    ·cases hs
   ·cases hs
  ·rename_i p b off len n hinf hb
   obtain ⟨inf, hinf, hp1, hp2⟩ := hT.i _ _ hinf
   rw [<- hp1] at hs
   rw [hb] at hx
   split at hs
   ·rename_i hsz
    split at hs
    ·rename_i h1
     cases hs
     generalize hq : a.eval x = xv at hx
     cases hx with
     | vs hg hl hc =>
      refine ⟨_, ?_, .ptr hg⟩
      unfold execOp
      simp only [ho, hq, ei, Instr.indexAt, asIntOf, Sem.run_bind, Sem.run_pure, Result.andThen_ok, ze hu, h1, and_self, if_true, zk hinf, Addr.add_mid, Nat.add_mul, hsz]
     | vsn => omega
     | vse => omega
    ·cases hs
   ·cases hs
  ·cases hs
 ·rename_i len e k i hu hix
  replace hu := hT.u _ _ hu
  rw [hix] at hi
  have ei := hi.int_inv
  split at hs
  ·rename_i p b off hinf hb
   obtain ⟨inf, hinf, hp1, hp2⟩ := hT.i _ _ hinf
   rw [<- hp1] at hs
   rw [hb] at hx
   split at hs
   ·rename_i h1
    cases hs
    generalize hq : a.eval x = xv at hx
    cases hx with
    | ptr hg =>
     refine ⟨_, ?_, .ptr hg⟩
     unfold execOp
     simp only [ho, hq, ei, Instr.indexAt, Instr.sureAddr, asIntOf, Sem.run_bind, Sem.run_pure, Result.andThen_ok, ze hu, h1, and_self, if_true, zk hinf, Addr.add_mid]
   ·cases hs
  ·rename_i p cs hinf hb
   obtain ⟨inf, hinf, hp1, hp2⟩ := hT.i _ _ hinf
   rw [<- hp1] at hs
   rw [hb] at hx
   split at hs
   ·rename_i h1
    cases hs
    generalize hq : a.eval x = xv at hx
    cases hx with
    | @ref _ _ g off _ cf hm ho' hr =>
     refine ⟨.pointer (some ⟨g, off + i.toNat * inf.size, none⟩), ?_, Rd.drop (.ref cf hm ho' hr)⟩
     unfold execOp
     simp only [ho, hq, ei, Instr.indexAt, Instr.sureAddr, asIntOf, Sem.run_bind, Sem.run_pure, Result.andThen_ok, ze hu, h1, and_self, if_true, zk hinf, Addr.add_mid]
   ·cases hs
  ·cases hs
 ·cases hs
theorem zkm (h : SimW B M ρ σ s a w) {o : Oper} {op : BinOp} {t t2 : TypeId} {x y : Operand} (ho : o.op = .binOp op t x y t2) {v : AV} (hs : zn T s (.binOp op t x y t2) = some v) : Ze P M ρ σ a w o v := by
 have hx := h.ev x
 have hy := h.ev y
 simp only [zn] at hs
 split at hs
 ·rename_i k i k' j hxe hye
  rw [hxe] at hx
  rw [hye] at hy
  split at hs
  ·rename_i hk
   subst hk
   split at hs
   ·cases hs
   ·rename_i hj
    cases hs
    refine ⟨_, ?_, .v⟩
    unfold execOp
    simp [ho, hx.int_inv, hy.int_inv, eqGuard, binOp, Op.intDiv, hj]
  ·cases hs
 ·rename_i k i k' j hxe hye
  rw [hxe] at hx
  rw [hye] at hy
  split at hs
  ·rename_i hk
   subst hk
   split at hs
   ·cases hs
   ·rename_i hj
    cases hs
    refine ⟨_, ?_, .v⟩
    unfold execOp
    simp [ho, hx.int_inv, hy.int_inv, eqGuard, binOp, Op.intDiv, hj]
  ·cases hs
 ·rename_i b b' hxe hye
  rw [hxe] at hx
  rw [hye] at hy
  split at hs
  ·rename_i hle
   cases hs
   refine ⟨_, ?_, .v⟩
   have hmx : IntKind.i64.max = 9223372036854775807 := rfl
   have hle' : ¬ (IntKind.i64.max < ((b.size + b'.size : Nat) : Int)) := by omega
   unfold execOp
   simp only [ho, hx.v_inv, hy.v_inv]
   simp [eqGuard, binOp, Op.stringOp]
   simp at hle'
   omega
  ·cases hs
 ·rename_i k i k' j hxe hye
  rw [hxe] at hx
  rw [hye] at hy
  split at hs
  ·rename_i hk
   subst hk
   cases hs
   refine ⟨_, ?_, .v⟩
   unfold execOp
   simp [ho, hx.int_inv, hy.int_inv, eqGuard, binOp, Op.intArith]
  ·cases hs
 ·rename_i k i k' j hxe hye
  rw [hxe] at hx
  rw [hye] at hy
  split at hs
  ·cases hs
  ·rename_i hj
   cases hs
   refine ⟨_, ?_, .v⟩
   unfold execOp
   simp [ho, hx.int_inv, hy.int_inv, eqGuard, binOp, Op.shift, hj, shL]
 ·rename_i k i k' j hxe hye
  rw [hxe] at hx
  rw [hye] at hy
  split at hs
  ·cases hs
  ·rename_i hj
   cases hs
   refine ⟨_, ?_, .v⟩
   unfold execOp
   simp [ho, hx.int_inv, hy.int_inv, eqGuard, binOp, Op.shift, hj, shR]
 ·cases hs
theorem zvc (hT : TabOk P T) {t : TypeId} {off : Nat} {ccs : Array Value} {cs : List AV} {v : AV} (hl : ccs.size = cs.length) (h1 : ∀ i (h : i < ccs.size), (ccs[i]).oneCell' = true) (hr : ∀ i (h : i < ccs.size) (h' : i < cs.length), Rd M ρ σ ccs[i] cs[i]) (hs : ld T t cs off = some v) : ∃ c, (part t ccs off).run P w = .ok c w /\ Rd M ρ σ c v := by
 unfold ld at hs
 split at hs
 ·rename_i d hd
  replace hd := hT.u _ _ hd
  split at hs
  ·rename_i hrow
   split at hs
   ·rename_i p hi
    obtain ⟨i, hi, hp1, hp2⟩ := hT.i _ _ hi
    rw [<- hp1] at hs
    split at hs
    ·rename_i hle
     cases hs
     refine ⟨.agg (ccs.extract off (off + i.size)), ?_, .agg (by simp; omega) (λ j hj => ?_) (λ j hj hj' => ?_)⟩
     ·unfold part
      simp only [Sem.run_bind, Zj hd, Result.andThen_ok, hrow, if_true, zk hi, Sem.run_pure]
     ·simp at hj; simpa using h1 (off + j) (by omega)
     ·simp at hj; simpa using hr (off + j) (by omega) (by omega)
    ·cases hs
   ·cases hs
  ·rename_i hrow
   split at hs
   ·rename_i y hy
    obtain rfl := zad hs
    obtain ⟨hlt, hy'⟩ := List.getElem?_eq_some_iff.1 hy
    have hrow' : zw d = false := by cases hq : zw d <;> simp_all
    refine ⟨ccs[off]'(by omega), ?_, by rw [<- hy']; exact hr _ _ _⟩
    unfold part
    simp only [Sem.run_bind, Zj hd, Result.andThen_ok, hrow', Bool.false_eq_true, if_false]
    rw [Array.getElem?_eq_getElem (by omega : off < ccs.size)]
    rfl
   ·cases hs
 ·cases hs
theorem zko (hT : TabOk P T) (h : SimW B M ρ σ s a w) {o : Oper} {t : TypeId} {x ix : Operand} (ho : o.op = .index t x ix) {v : AV} (hs : zn T s (.index t x ix) = some v) : Ze P M ρ σ a w o v := by
 have hx := h.ev x
 have hy := h.ev ix
 simp only [zn] at hs
 split at hs
 ·rename_i b k i hu hxe hye
  replace hu := hT.u _ _ hu
  rw [hxe] at hx
  rw [hye] at hy
  split at hs
  ·rename_i h0
   split at hs
   ·rename_i c hc
    cases hs
    refine ⟨_, ?_, .v⟩
    unfold execOp
    simp [ho, hx.v_inv, hy.int_inv, Instr.index, asIntOf, ze hu, h0, hc]
   ·cases hs
  ·cases hs
 ·rename_i len e cs k i hu hxe hye
  replace hu := hT.u _ _ hu
  rw [hxe] at hx
  rw [hye] at hy
  split at hs
  ·rename_i hb
   split at hs
   ·rename_i p hi
    obtain ⟨inf, hi, hp1, hp2⟩ := hT.i _ _ hi
    rw [<- hp1] at hs
    generalize hq : a.eval x = xv at hx
    cases hx with
    | @agg _ _ ccs _ hl h1 hr =>
    obtain ⟨c, c1, c2⟩ := zvc (w := w) hT hl h1 hr hs
    refine ⟨c, ?_, c2⟩
    unfold execOp
    simp only [ho, hq, hy.int_inv, Instr.index, asIntOf, Sem.run_bind, Sem.run_pure, Result.andThen_ok, ze hu, hb, and_self, if_true, zk hi, c1]
   ·cases hs
  ·cases hs
 ·cases hs
theorem zcZ : ∀ {xs : List (List AV)} {ns : List Int}, zgq xs = some ns -> xs.length = ns.length /\ ∀ i (h : i < xs.length), xs[i] = [.v (.int .u8 (ns.getD i 0))]
 | [], ns, h => by cases h; exact ⟨rfl, λ i h => by cases h⟩
 | x :: r, ns, h => by
  unfold zgq at h
  split at h
  ·rename_i he; cases he
  ·rename_i n r' he
   cases he
   split at h
   ·rename_i l hl
    cases h
    obtain ⟨q1, q2⟩ := zcZ hl
    refine ⟨by simp [q1], λ i hi => ?_⟩
    cases i with
    | zero => rfl
    | succ i => simpa using q2 i (by simpa using hi)
   ·cases h
  ·cases h
theorem zbn (hT : TabOk P T) (h : SimW B M ρ σ s a w) {o : Oper} {src dst : TypeId} {x : Operand} (ho : o.op = .convert src dst x) {v : AV} (hs : zn T s (.convert src dst x) = some v) : Ze P M ρ σ a w o v := by
 have hx := h.ev x
 simp only [zn] at hs
 split at hs
 ·rename_i k k' k'' n hu hv hxe
  rw [hxe] at hx
  cases hs
  refine ⟨_, ?_, .v⟩
  unfold execOp
  simp [ho, hx.v_inv, convert, ze (hT.u _ _ hu), ze (hT.u _ _ hv), Conv.intToInt]
 ·rename_i b hu hv hxe
  rw [hxe] at hx
  cases hs
  refine ⟨_, ?_, .v⟩
  unfold execOp
  simp [ho, hx.v_inv, convert, ze (hT.u _ _ hu), ze (hT.u _ _ hv)]
 ·rename_i e n xs tk hu hv hxe
  rw [hxe] at hx
  split at hs
  ·rename_i he
   split at hs
   ·rename_i hn
    subst hn
    split at hs
    ·rename_i ns hns
     cases hs
     have hu := hT.u _ _ hu
     have hv := hT.u _ _ hv
     have he := hT.u _ _ he
     refine ⟨.string (strOfNums ns), ?_, .v⟩
     obtain ⟨q1, q2⟩ := zcZ hns
     generalize hq : a.eval x = xv at hx
     cases hx with
     | @nil _ _ _ _ av =>
      have : ns = [] := List.length_eq_zero_iff.1 q1.symm
      subst this
      have : (convert src dst (.slice av 0 0)).run P w = .ok (.string (strOfNums [])) w := by
       cases av with
       | none => exact run_convert_bytes_nil w src _ hu he 0 0 dst hv
       | some g =>
        have hl : (loadCells g 0).run P w = .ok (([] : List Int).map (Value.int .u8)).toArray w := by
         simpa using run_loadCells_list (P := P) w g [] (λ j v hj => by simp at hj)
        rw [run_convert_bytes_string w src dst _ _ 0 0 hu he hv, run_bytesToString w _ 0 0 [] hl, foldl_push_bytes]
        rfl
      unfold execOp
      simp only [ho, hq, this, Sem.run_bind, Result.andThen_ok, Sem.run_pure]
     | @list _ _ g off len cap _ _ _ cf e1 e2 e3 e4 e5 e6 e7 =>
      have := run_convert_bytes_arg w src _ hu he g off len cap ns (by omega) (λ i hi => by
       have h1 := e4 i 0 (by omega) (by omega)
       have hlt : i < xs.length := by omega
       have h2 := q2 i hlt
       have h3 : 0 < (xs[i]).length := by rw [h2]; simp
       have h4 := e6 i 0 hlt h3
       have h5 : (xs[i])[0] = .v (.int .u8 (ns.getD i 0)) := by simp only [h2, List.getElem_cons_zero]
       rw [h5] at h4
       rw [h4.v_inv] at h1
       have := h.mem _ _ _ h1
       simpa using this) dst hv
      unfold execOp
      simp only [ho, hq, this, Sem.run_bind, Result.andThen_ok, Sem.run_pure]
    ·cases hs
   ·cases hs
  ·cases hs
 ·cases hs
theorem Rd.part {g off len cap n l h' : Nat} {xs : List (List AV)} {tk : Option Nat} (hr : Rd M ρ σ (.slice (some ⟨g, off, none⟩) len cap) (.list n xs tk)) (hl : l <= h') (hh : h' <= len) (tk' : Option Nat) (ht : tk' = none \/ (tk' = tk /\ h' = len)) (g' : Addr) (hg : g' = if cap = l then ⟨g, off, none⟩ else ⟨g, off + l * n, none⟩) :
  Rd M ρ σ (.slice (some g') (h' - l) (cap - l)) (.list n ((xs.take h').drop l) tk') := by
 cases hr with
 | nil ha =>
  have e1 : h' = 0 := by omega
  subst e1
  simpa using Rd.nil (a := some g') (.inr (ht.elim id λ h => h.1.trans (ha.resolve_left (by simp))))
 | list cf e1 e2 e3 e4 e5 e6 e7 =>
  have elen : ((xs.take h').drop l).length = h' - l := by simp; omega
  have eget : ∀ i (hi : i < ((xs.take h').drop l).length), ((xs.take h').drop l)[i] = xs[l + i]'(by rw [elen] at hi; omega) := λ i hi => by simp
  by_cases hc : cap = l
  ·rw [if_pos hc] at hg
   subst hg
   have e0 : h' - l = 0 := by omega
   refine .list (λ i j => cf (l + i) j) elen (by omega) (λ i hi => by rw [elen] at hi; omega) (λ i j hi => by rw [elen] at hi; omega) (λ i j => e5 _ _) (λ i j hi => by rw [elen] at hi; omega) (λ k hk => .inl ?_)
   have : cap - l = 0 := by omega
   rw [this]; simp
  ·rw [if_neg hc] at hg
   subst hg
   refine .list (λ i j => cf (l + i) j) elen (by omega) (λ i hi => ?_) (λ i j hi hj => ?_) (λ i j => e5 _ _) (λ i j hi hj => ?_) ?_
   ·rw [eget i hi]; exact e3 _ _
   ·rw [elen] at hi
    have := e4 (l + i) j (by omega) hj
    rw [show off + l * n + i * n + j = off + (l + i) * n + j by rw [Nat.add_mul]; omega]
    exact this
   ·have hi' := hi
    rw [elen] at hi'
    have q := eget i hi
    have hj2 : j < (xs[l + i]'(by omega)).length := by rw [<- q]; exact hj
    have := e6 (l + i) j (by omega) hj2
    simp only [q]
    exact this
   ·rcases ht with ht | ⟨ht, hh'⟩
    ·rw [ht]; exact TokOk.none
    ·subst ht
     intro k hk
     have a1 : off + l * n + (h' - l) * n = off + len * n := by rw [Nat.add_assoc, <- Nat.add_mul, hh']; congr 2; omega
     have a2 : off + l * n + (cap - l) * n = off + cap * n := by rw [Nat.add_assoc, <- Nat.add_mul]; congr 2; omega
     rw [a1, a2]
     refine (e7 k hk).imp (λ e => ?_) λ ⟨s, s1, s2, s3, s4, q, hq⟩ => ⟨s, s1, s2, s3, s4, q + l, by rw [Nat.add_mul, <- hq]⟩
     have := Nat.mul_le_mul_right n (show l <= cap by omega)
     omega
theorem zkp (hT : TabOk P T) (h : SimW B M ρ σ s a w) {o : Oper} {t : TypeId} {x : Operand} {lo hi mx : Option Operand} (ho : o.op = .slice t x lo hi mx) {v : AV} (hs : zn T s (.slice t x lo hi mx) = some v) : Ze P M ρ σ a w o v := by
 have hx := h.ev x
 cases mx with
 | some m => simp [zn] at hs
 | none =>
 simp only [zn] at hs
 split at hs
 ·rename_i e n xs tk hu hxe
  replace hu := hT.u _ _ hu
  rw [hxe] at hx
  split at hs
  ·rename_i p hinf
   obtain ⟨inf, hinf, hp1, hp2⟩ := hT.i _ _ hinf
   rw [<- hp1] at hs
   split at hs
   ·rename_i hsz
    have fin : ∀ (l h' : Nat) (tk' : Option Nat), l <= h' -> h' <= xs.length -> (tk' = none \/ (tk' = tk /\ h' = xs.length)) ->
      (∀ len cap, xs.length = len -> len <= cap -> (Instr.sliceBounds true len cap (lo.map a.eval) (hi.map a.eval) none).run P w = .ok (l, h', cap) w) -> v = .list n ((xs.take h').drop l) tk' -> Ze P M ρ σ a w o v := by
     intro l h' tk' hl hh ht hb hv
     subst hv
     generalize hq : a.eval x = xv at hx
     cases hx with
     | @nil _ _ _ _ av ha =>
      have hb' := hb 0 0 rfl (Nat.le_refl _)
      simp at hh
      subst hh
      have : l = 0 := by omega
      subst this
      refine ⟨.slice av 0 0, ?_, by simpa using Rd.nil (ha.imp id λ e => ht.elim id λ h => h.1.trans e)⟩
      unfold execOp
      cases av <;> simp [ho, hq, Instr.sliceAt, Instr.slice, ze hu, hb', zk hinf]
     | @list _ _ g off len cap _ _ _ cf e1 e2 e3 e4 e5 e6 e7 =>
      have hb' := hb len cap e1 e2
      have hr : Rd M ρ σ (.slice (some ⟨g, off, none⟩) len cap) (.list n xs tk) := .list cf e1 e2 e3 e4 e5 e6 e7
      refine ⟨.slice (some (if cap = l then ⟨g, off, none⟩ else ⟨g, off + l * n, none⟩)) (h' - l) (cap - l), ?_, hr.part hl (by omega) tk' (by rw [<- e1]; exact ht) _ rfl⟩
      unfold execOp
      simp only [ho, hq, Instr.sliceAt, Instr.slice, Sem.run_bind, Sem.run_pure, Result.andThen_ok, ze hu, hb', zk hinf, Option.map_none, Option.map_some, Addr.add_mid, hsz]
      by_cases hc : cap = l <;> simp [hc]
    have i64 : ∀ {q : Operand} {k : IntKind} {i : Int}, s.ev q = .v (.int k i) -> a.eval q = .int k i := λ {q k i} hq => by
     have := h.ev q; rw [hq] at this; exact this.int_inv
    split at hs
    ·rename_i hlo hhi
     cases hs
     have e1 : lo = none := Option.map_eq_none_iff.1 hlo
     have e2 : hi = none := Option.map_eq_none_iff.1 hhi
     subst e1 e2
     exact fin 0 xs.length tk (Nat.zero_le _) (Nat.le_refl _) (.inr ⟨rfl, rfl⟩) (λ len cap hl hc => by simp [Instr.sliceBounds, hl]) (by simp)
    ·rename_i k l hlo hhi
     have e2 : hi = none := Option.map_eq_none_iff.1 hhi
     subst e2
     obtain ⟨q, rfl, e1⟩ := Option.map_eq_some_iff.1 hlo
     split at hs
     ·rename_i hc
      cases hs
      refine fin l.toNat xs.length tk (by omega) (Nat.le_refl _) (.inr ⟨rfl, rfl⟩) (λ len cap hl hc' => ?_) (by simp)
      have : 0 <= l /\ l <= (len : Int) := by omega
      simp [Instr.sliceBounds, Instr.sliceBound, i64 e1, asIntOf, this, hl]
     ·cases hs
    ·rename_i k u hlo hhi
     have e1 : lo = none := Option.map_eq_none_iff.1 hlo
     subst e1
     obtain ⟨q, rfl, e2⟩ := Option.map_eq_some_iff.1 hhi
     split at hs
     ·rename_i hc
      cases hs
      refine fin 0 u.toNat none (Nat.zero_le _) (by omega) (.inl rfl) (λ len cap hl hc' => ?_) (by simp)
      have : 0 <= u /\ u <= (cap : Int) := by omega
      simp [Instr.sliceBounds, Instr.sliceBound, i64 e2, asIntOf, this]
     ·cases hs
    ·rename_i k l k' u hlo hhi
     obtain ⟨q, rfl, e1⟩ := Option.map_eq_some_iff.1 hlo
     obtain ⟨q', rfl, e2⟩ := Option.map_eq_some_iff.1 hhi
     split at hs
     ·rename_i hc
      cases hs
      refine fin l.toNat u.toNat none (by omega) (by omega) (.inl rfl) (λ len cap hl hc' => ?_) rfl
      have h1 : 0 <= u /\ u <= (cap : Int) := by omega
      have h2 : 0 <= l /\ l <= ((u.toNat : Nat) : Int) := by omega
      simp [Instr.sliceBounds, Instr.sliceBound, i64 e1, i64 e2, asIntOf, h1]
      omega
     ·cases hs
    ·cases hs
   ·cases hs
  ·cases hs
 ·rename_i e b off len n hu hxe
  replace hu := hT.u _ _ hu
  rw [hxe] at hx
  split at hs
  ·rename_i p hinf
   obtain ⟨inf, hinf, hp1, hp2⟩ := hT.i _ _ hinf
   rw [<- hp1] at hs
   split at hs
   ·rename_i hsz
    have fin : ∀ (l h' : Nat), l <= h' -> h' <= len -> (∀ cap, len <= cap -> (Instr.sliceBounds true len cap (lo.map a.eval) (hi.map a.eval) none).run P w = .ok (l, h', cap) w) -> v = .vs b (off + l) (h' - l) n -> Ze P M ρ σ a w o v := by
     intro l h' hl hh hb hv
     subst hv
     generalize hq : a.eval x = xv at hx
     cases hx with
     | @vs _ _ _ g _ _ cap _ hg hlc hc =>
      have hb' := hb cap hlc
      refine ⟨.slice (some (if cap = l then ⟨g, off * n, none⟩ else ⟨g, off * n + l * n, none⟩)) (h' - l) (cap - l), ?_, ?_⟩
      ·unfold execOp
       simp only [ho, hq, Instr.sliceAt, Instr.slice, Sem.run_bind, Sem.run_pure, Result.andThen_ok, ze hu, hb', zk hinf, Option.map_none, Option.map_some, Addr.add_mid, hsz]
       by_cases hc : cap = l <;> simp [hc]
      ·by_cases hcl : cap = l
       ·rw [if_pos hcl, show h' - l = 0 by omega, show cap - l = 0 by omega]; exact .vse
       ·rw [if_neg hcl, <- Nat.add_mul]
        exact .vs hg (by omega) (hc.imp λ sp q => ⟨q.1, q.2.1, by rw [<- q.2.2]; congr 1; omega⟩)
     | vsn =>
      have hb' := hb 0 (Nat.le_refl _)
      have e1 : h' = 0 := by omega
      have e2 : l = 0 := by omega
      subst e1 e2
      refine ⟨.slice none 0 0, ?_, .vsn⟩
      unfold execOp
      simp [ho, hq, Instr.sliceAt, Instr.slice, ze hu, hb', zk hinf]
     | @vse _ _ _ g q _ _ =>
      have hb' := hb 0 (Nat.le_refl _)
      have e1 : h' = 0 := by omega
      have e2 : l = 0 := by omega
      subst e1 e2
      refine ⟨.slice (some ⟨g, q, none⟩) 0 0, ?_, .vse⟩
      unfold execOp
      simp [ho, hq, Instr.sliceAt, Instr.slice, ze hu, hb', zk hinf]
    have i64 : ∀ {q : Operand} {k : IntKind} {i : Int}, s.ev q = .v (.int k i) -> a.eval q = .int k i := λ {q k i} hq => by
     have := h.ev q; rw [hq] at this; exact this.int_inv
    split at hs
    ·rename_i hlo hhi
     cases hs
     have e1 : lo = none := Option.map_eq_none_iff.1 hlo
     have e2 : hi = none := Option.map_eq_none_iff.1 hhi
     subst e1 e2
     exact fin 0 len (Nat.zero_le _) (Nat.le_refl _) (λ cap hc => by simp [Instr.sliceBounds]) rfl
    ·rename_i k l hlo hhi
     have e2 : hi = none := Option.map_eq_none_iff.1 hhi
     subst e2
     obtain ⟨q, rfl, e1⟩ := Option.map_eq_some_iff.1 hlo
     split at hs
     ·rename_i hc
      cases hs
      refine fin l.toNat len (by omega) (Nat.le_refl _) (λ cap hc' => ?_) rfl
      have : 0 <= l /\ l <= (len : Int) := by omega
      simp [Instr.sliceBounds, Instr.sliceBound, i64 e1, asIntOf, this]
     ·cases hs
    ·rename_i k u hlo hhi
     have e1 : lo = none := Option.map_eq_none_iff.1 hlo
     subst e1
     obtain ⟨q, rfl, e2⟩ := Option.map_eq_some_iff.1 hhi
     split at hs
     ·rename_i hc
      cases hs
      refine fin 0 u.toNat (Nat.zero_le _) (by omega) (λ cap hc' => ?_) rfl
      have : 0 <= u /\ u <= (cap : Int) := by omega
      simp [Instr.sliceBounds, Instr.sliceBound, i64 e2, asIntOf, this]
     ·cases hs
    ·rename_i k l k' u hlo hhi
     obtain ⟨q, rfl, e1⟩ := Option.map_eq_some_iff.1 hlo
     obtain ⟨q', rfl, e2⟩ := Option.map_eq_some_iff.1 hhi
     split at hs
     ·rename_i hc
      cases hs
      refine fin l.toNat u.toNat (by omega) (by omega) (λ cap hc' => ?_) rfl
      have h1 : 0 <= u /\ u <= (cap : Int) := by omega
      have h2 : 0 <= l /\ l <= ((u.toNat : Nat) : Int) := by omega
      simp [Instr.sliceBounds, Instr.sliceBound, i64 e1, i64 e2, asIntOf, h1]
      omega
     ·cases hs
    ·cases hs
   ·cases hs
  ·cases hs
 ·rename_i b hu hxe
  replace hu := hT.u _ _ hu
  rw [hxe] at hx
  have i64 : ∀ {q : Operand} {k : IntKind} {i : Int}, s.ev q = .v (.int k i) -> a.eval q = .int k i := λ {q k i} hq => by
   have := h.ev q; rw [hq] at this; exact this.int_inv
  have fin : ∀ (l h' : Nat), (Instr.sliceBounds false b.size b.size (lo.map a.eval) (hi.map a.eval) none).run P w = .ok (l, h', b.size) w -> v = .v (.string (b.extract l h')) -> Ze P M ρ σ a w o v := by
   intro l h' hb hv
   subst hv
   refine ⟨_, ?_, .v⟩
   unfold execOp
   simp only [ho, hx.v_inv, Instr.sliceAt, Instr.slice, Sem.run_bind, Sem.run_pure, Result.andThen_ok, ze hu, Option.map_none, Option.isSome_none, Bool.false_eq_true, if_false, hb]
  split at hs
  ·rename_i hlo hhi
   cases hs
   have e1 : lo = none := Option.map_eq_none_iff.1 hlo
   have e2 : hi = none := Option.map_eq_none_iff.1 hhi
   subst e1 e2
   exact fin 0 b.size (by simp [Instr.sliceBounds]) rfl
  ·rename_i k l hlo hhi
   have e2 : hi = none := Option.map_eq_none_iff.1 hhi
   subst e2
   obtain ⟨q, rfl, e1⟩ := Option.map_eq_some_iff.1 hlo
   split at hs
   ·rename_i hc
    cases hs
    exact fin l.toNat b.size (by simp [Instr.sliceBounds, Instr.sliceBound, i64 e1, asIntOf, hc]) rfl
   ·cases hs
  ·rename_i k u hlo hhi
   have e1 : lo = none := Option.map_eq_none_iff.1 hlo
   subst e1
   obtain ⟨q, rfl, e2⟩ := Option.map_eq_some_iff.1 hhi
   split at hs
   ·rename_i hc
    cases hs
    exact fin 0 u.toNat (by simp [Instr.sliceBounds, Instr.sliceBound, i64 e2, asIntOf, hc]) rfl
   ·cases hs
  ·rename_i k l k' u hlo hhi
   obtain ⟨q, rfl, e1⟩ := Option.map_eq_some_iff.1 hlo
   obtain ⟨q', rfl, e2⟩ := Option.map_eq_some_iff.1 hhi
   split at hs
   ·rename_i hc
    cases hs
    refine fin l.toNat u.toNat ?_ rfl
    have h1 : 0 <= u /\ u <= (b.size : Int) := by omega
    have h2 : 0 <= l /\ l <= ((u.toNat : Nat) : Int) := by omega
    simp [Instr.sliceBounds, Instr.sliceBound, i64 e1, i64 e2, asIntOf, h1]
    omega
   ·cases hs
  ·cases hs
 ·cases hs
theorem zvu (hT : TabOk P T) (h : SimW B M ρ σ s a w) {o : Oper} {v : AV} (hs : zn T s o.op = some v) : Ze P M ρ σ a w o v := by
 cases ho : o.op with
 | move x => rw [ho] at hs; simp only [zn] at hs; cases hs; exact zgz h (.inl ho)
 | assign x => rw [ho] at hs; simp only [zn] at hs; cases hs; exact zgz h (.inr ho)
 | pick c x y => rw [ho] at hs; exact zon h ho hs
 | load t x => rw [ho] at hs; exact zom hT h ho hs
 | nilCheck x => rw [ho] at hs; exact zfq h ho hs
 | fieldAddr t x f => rw [ho] at hs; exact zdo hT h ho hs
 | indexAddr t x ix => rw [ho] at hs; exact zdp hT h ho hs
 | field t x f => rw [ho] at hs; exact zkn hT h ho hs
 | extract x i => rw [ho] at hs; exact zgy h ho hs
 | makeFunc fn fi ca => rw [ho] at hs; exact zfp h ho hs
 | binOp op t x y t2 => rw [ho] at hs; exact zkm h ho hs
 | convert src dst x => rw [ho] at hs; exact zbn hT h ho hs
 | index t x ix => rw [ho] at hs; exact zko hT h ho hs
 | slice t x lo hi mx => rw [ho] at hs; exact zkp hT h ho hs
 | call c =>
  obtain ⟨callee, args, argTypes⟩ := c
  rw [ho] at hs
  cases callee with
  | builtin b =>
   cases b with
   | len => exact zqt hT h ho hs
   | _ => simp [zn] at hs
  | _ => simp [zn] at hs
 | _ => rw [ho] at hs; simp [zn] at hs
end
end
section
open Go.RowKit
def zfU (place : Nat -> Option (Nat × Nat)) (cells : List AV) : List (Nat × AV) -> Option (List AV)
 | [] => some cells
 | (i, v) :: rest =>
  match place i, cellsOf v with
  | some (off, size), some new => if new.length = size /\ off + new.length <= cells.length then zfU place (splice cells off new) rest else none
  | _, _ => none
def zjc (T : Tab) : List Field -> Option (List (Nat × Nat))
 | [] => some []
 | f :: fs =>
  match T.i f.type, zjc T fs with
  | some i, some l => some ((f.offset, i.1) :: l)
  | _, _ => none
def zeR (T : Tab) (s : AS) (t : TypeId) (parts : List (Nat × Operand)) : Option AV :=
 match T.u t, T.z t with
 | some (.struct fs), some z =>
  (match zjc T fs.toList with
  | some pl => (match zfU (λ i => pl[i]?) z (parts.map λ p => (p.1, s.ev p.2)) with | some cs => some (.agg cs) | none => none)
  | none => none)
 | some (.array n e), some z =>
  (match T.i e with
  | some i => (match zfU (λ k => some (k * i.1, i.1)) z (parts.map λ p => (p.1, s.ev p.2)) with | some cs => some (.agg cs) | none => none)
  | none => none)
 | _, _ => none
def ZF (off n : Nat) (cs : List AV) : List AV := match Nat.beq off 0 with
 | true => cs
 | false => cs.drop (off * n)
theorem zeX (off n : Nat) (cs : List AV) : ZF off n cs = cs.drop (off * n) := by
 unfold ZF
 split
 ·rename_i h
  have := Nat.eq_of_beq_eq_true h
  subst this; simp
 ·rfl
def zp (cs : List AV) (sz : Nat) : Nat -> List (List AV)
 | 0 => []
 | n + 1 => ((cs.take sz).map dat0) :: zp (cs.drop sz) sz n
section
variable {P : Program} {T : Tab} {B : Base} {M : Mem} {ρ : Rho} {σ : Sig} {s : AS} {a : Act} {w : World}
theorem zed : ∀ (l : List Value) (k off : Nat) (cc : Array Value), off + k + l.length <= cc.size ->
  ((l.zipIdx k).foldl (λ cs (p : Value × Nat) => cs.setIfInBounds (off + p.2) p.1) cc).size = cc.size /\ ∀ j, ((l.zipIdx k).foldl (λ cs (p : Value × Nat) => cs.setIfInBounds (off + p.2) p.1) cc)[j]? = if off + k <= j /\ j < off + k + l.length then l[j - (off + k)]? else cc[j]?
 | [], k, off, cc, _ => ⟨rfl, λ j => by
   have n1 : ¬ (off + k <= j /\ j < off + k + ([] : List Value).length) := by simp
   rw [if_neg n1]; rfl⟩
 | v :: r, k, off, cc, h => by
  simp only [List.length_cons] at h
  obtain ⟨h1, h2⟩ := zed r (k + 1) off (cc.setIfInBounds (off + k) v) (by simp; omega)
  simp only [List.zipIdx_cons, List.foldl_cons]
  refine ⟨by rw [h1]; simp, λ j => ?_⟩
  rw [h2 j]
  by_cases hj : off + (k + 1) <= j /\ j < off + (k + 1) + r.length
  ·have n1 : off + k <= j /\ j < off + k + (v :: r).length := by simp only [List.length_cons]; omega
   rw [if_pos hj, if_pos n1, show j - (off + k) = (j - (off + (k + 1))) + 1 by omega]
   rfl
  ·rw [if_neg hj, Array.getElem?_setIfInBounds]
   by_cases ho : off + k = j
   ·have n1 : off + k <= j /\ j < off + k + (v :: r).length := by simp only [List.length_cons]; omega
    rw [if_pos ho, if_pos n1, if_pos (by omega), show j - (off + k) = 0 by omega]
    rfl
   ·have n1 : ¬ (off + k <= j /\ j < off + k + (v :: r).length) := by simp only [List.length_cons]; omega
    rw [if_neg ho, if_neg n1]
theorem Pw.splice {cc : Array Value} {cs : List AV} (h : Pw M ρ σ cc cs) {new : Array Value} {anew : List AV} (hn : Pw M ρ σ new anew) (off : Nat) (hf : off + anew.length <= cs.length) (r : Array Value) (hs : r.size = cc.size)
  (hg : ∀ j, r[j]? = if off <= j /\ j < off + new.size then new[j - off]? else cc[j]?) : Pw M ρ σ r (splice cs off anew) := by
 obtain ⟨h1, h2, h3⟩ := h
 obtain ⟨n1, n2, n3⟩ := hn
 refine ⟨by rw [zB]; omega, λ i hi => ?_, λ i hi hi' => ?_⟩
 ·have e := hg i
  rw [Array.getElem?_eq_getElem hi] at e
  split at e
  ·rw [Array.getElem?_eq_getElem (by omega)] at e
   rw [Option.some.inj e]; exact n2 _ _
  ·rw [Array.getElem?_eq_getElem (by omega)] at e
   rw [Option.some.inj e]; exact h2 _ _
 ·have e := hg i
  have e2 := jC anew cs off hf i
  rw [Array.getElem?_eq_getElem hi] at e
  rw [List.getElem?_eq_getElem hi'] at e2
  split at e
  ·rw [if_pos (by omega)] at e2
   rw [Array.getElem?_eq_getElem (by omega)] at e
   rw [List.getElem?_eq_getElem (by omega)] at e2
   rw [Option.some.inj e, Option.some.inj e2]; exact n3 _ _ _
  ·rw [if_neg (by omega)] at e2
   rw [Array.getElem?_eq_getElem (by omega)] at e
   rw [List.getElem?_eq_getElem (by omega)] at e2
   rw [Option.some.inj e, Option.some.inj e2]; exact h3 _ _ _
theorem zbz (place : Nat -> Option (Nat × Nat)) : ∀ (parts : List (Nat × Operand)) (cs r : List AV) (cc : Array Value), (∀ x, Rd M ρ σ (a.eval x) (s.ev x)) -> Pw M ρ σ cc cs -> zfU place cs (parts.map λ p => (p.1, s.ev p.2)) = some r ->
  ∃ cr, Instr.fill place cc (parts.map λ p => (p.1, a.eval p.2)) = some cr /\ Pw M ρ σ cr r
 | [], cs, r, cc, hev, hp, h => by cases h; exact ⟨cc, rfl, hp⟩
 | (i, x) :: rest, cs, r, cc, hev, hp, h => by
  simp only [List.map_cons, zfU] at h
  split at h
  ·rename_i off size new hpl hnew
   split at h
   ·rename_i hc
    obtain ⟨c1, c2⟩ := hc
    obtain ⟨n1, n2, n3⟩ := zeT (hev x) hnew
    have hpw := hp.1
    obtain ⟨f1, f2⟩ := zed (a.eval x).cells.toList 0 off cc (by simp; omega)
    have e0 : ((a.eval x).cells.zipIdx.foldl (λ cs (p : Value × Nat) => cs.setIfInBounds (off + p.2) p.1) cc) = (((a.eval x).cells.toList.zipIdx 0).foldl (λ cs (p : Value × Nat) => cs.setIfInBounds (off + p.2) p.1) cc) := by
     rw [<- Array.foldl_toList, Array.toList_zipIdx]
    obtain ⟨cr, h1, h2⟩ := zbz place rest (splice cs off new) r (((a.eval x).cells.toList.zipIdx 0).foldl (λ cs (p : Value × Nat) => cs.setIfInBounds (off + p.2) p.1) cc) hev
     (hp.splice (new := (a.eval x).cells) ⟨n1, n2, n3⟩ off (by omega) _ f1 (λ j => by rw [f2 j]; simp)) h
    refine ⟨cr, ?_, h2⟩
    simp only [List.map_cons, Instr.fill, hpl]
    have g1 : ((a.eval x).cells.size ≠ size || decide (off + (a.eval x).cells.size > cc.size)) = false := by
     have : (a.eval x).cells.size = size := by omega
     simp [this]; omega
    simp only [g1, Bool.false_eq_true, if_false]
    have e1 := e0
    rw [show (λ (cs : Array Value) (p : Value × Nat) => cs.setIfInBounds (off + p.2) p.1) = (λ cs x => match x with | (c, j) => cs.setIfInBounds (off + j) c) from rfl] at e1
    rw [e1]
    exact h1
   ·cases h
  ·cases h
theorem Zb (hT : TabOk P T) {t : TypeId} {z : List AV} (h : T.z t = some z) : ∃ v : Value, (∀ w, (zeroValue t).run P w = .ok v w) /\ (∀ M ρ σ, Pw M ρ σ v.cells z) /\ ∃ i, P.info? t = some i /\ i.zero = some v := by
 obtain ⟨i, v, h1, h2, h3⟩ := hT.z _ _ h
 exact ⟨v, λ w => by simp [zeroValue, ZZ h1, h2], h3, i, h1, h2⟩
theorem zgu (hT : TabOk P T) : ∀ (fs : List Field) (l : List (Nat × Nat)) (w : World), zjc T fs = some l -> (fs.mapM (λ f => (do pure (f.offset, <- sizeOf f.type) : Sem (Nat × Nat)))).run P w = .ok l w
 | [], l, w, h => by cases h; rfl
 | f :: fs, l, w, h => by
  unfold zjc at h
  split at h
  ·rename_i p l' hi hl
   obtain ⟨i, hi, hp1, hp2⟩ := hT.i _ _ hi
   cases h
   rw [<- hp1]
   have ih := zgu hT fs l' w hl
   simp only [List.mapM_cons, Sem.run_bind, zk hi, Result.andThen_ok, Sem.run_pure, ih]
  ·cases h
theorem zpo (hT : TabOk P T) (h : SimW B M ρ σ s a w) {o : Oper} {t : TypeId} {parts : Array (Nat × Operand)} (ho : o.op = .build t parts) {v : AV} (hs : zeR T s t parts.toList = some v) : Ze P M ρ σ a w o v := by
 unfold zeR at hs
 split at hs
 ·rename_i fs z hu hz
  replace hu := hT.u _ _ hu
  split at hs
  ·rename_i pl hpl
   split at hs
   ·rename_i cs hf
    cases hs
    obtain ⟨zv, z1, z2, -⟩ := Zb hT hz
    obtain ⟨cr, h1, h2, h3, h4⟩ := zbz (a := a) (s := s) (M := M) (ρ := ρ) (σ := σ) (λ i => pl[i]?) parts.toList z cs zv.cells h.ev (z2 M ρ σ) hf
    refine ⟨.agg cr, ?_, .agg h2 h3 h4⟩
    have hm := zgu hT fs.toList pl w hpl
    have hm2 : (fs.mapM (λ f => (do pure (f.offset, <- sizeOf f.type) : Sem (Nat × Nat)))).run P w = .ok pl.toArray w := by
     rw [Array.mapM_eq_mapM_toList]
     show Sem.run P ((fs.toList.mapM _) >>= λ l => pure l.toArray) w = _
     rw [Sem.run_bind, hm]
     rfl
    unfold execOp
    simp only [ho, Instr.build, Sem.run_bind, Sem.run_pure, Result.andThen_ok, z1, ze hu]
    simp only [hm2, Result.andThen_ok]
    have e : (λ (x : Nat) => pl.toArray[x]?) = (λ (i : Nat) => pl[i]?) := by funext i; simp
    simp only [e, Array.toList_map, h1]
    rfl
   ·cases hs
  ·cases hs
 ·rename_i n e z hu hz
  replace hu := hT.u _ _ hu
  split at hs
  ·rename_i p hi
   obtain ⟨i, hi, hp1, hp2⟩ := hT.i _ _ hi
   rw [<- hp1] at hs
   split at hs
   ·rename_i cs hf
    cases hs
    obtain ⟨zv, z1, z2, -⟩ := Zb hT hz
    obtain ⟨cr, h1, h2, h3, h4⟩ := zbz (a := a) (s := s) (M := M) (ρ := ρ) (σ := σ) (λ k => some (k * i.size, i.size)) parts.toList z cs zv.cells h.ev (z2 M ρ σ) hf
    refine ⟨.agg cr, ?_, .agg h2 h3 h4⟩
    unfold execOp
    simp only [ho, Instr.build, Sem.run_bind, Sem.run_pure, Result.andThen_ok, z1, ze hu, zk hi, Array.toList_map, h1]
   ·cases hs
  ·cases hs
 ·cases hs
end
end
section
open Go.RowKit
def zd : Nat := 140737488351232
def zeG (T : Tab) (s : AS) (d : Nat) (t : TypeId) : Option (List Wr) :=
 match T.z t, s.bx d, s.tk (vk d) with
 | some z, none, none => if s.nin <= d then some [.box d (some z), .env d (.ptr d 0)] else none
 | _, _, _ => none
def zpn (s : AS) (d : Nat) (x : Operand) : Option (List Wr) :=
 match cellsOf (s.ev x), s.bx d, s.tk (vk d) with
 | some z, none, none => if s.nin <= d then some [.box d (some z), .env d (.ptr d 0)] else none
 | _, _, _ => none
def zaX (T : Tab) (s : AS) (t : TypeId) (x y : Operand) : Option (List Wr) :=
 match s.ev x, T.i t with
 | .ptr b off, some i =>
  (match s.cx b, cellsOf (s.ev y) with
  | some cs, some new => if new.length = i.1 then (if off + new.length <= cs.length then some [.box b (some (splice cs off new))] else none) else none
  | _, _ => none)
 | _, _ => none
def jm (T : Tab) (s : AS) (d : Nat) (t : TypeId) (len : Nat) (parts : List (Nat × Operand)) : Option (List Wr) :=
 match T.u t with
 | some (.slice e) =>
  (match T.i e, T.z e, s.tk (tD d 0) with
  | some i, some z, none =>
   if z.length = i.1 /\ 0 < i.1 /\ len * i.1 <= 16777216 then
    (match zfU (λ k => some (k * i.1, i.1)) ((List.range (len * i.1)).map λ k => (z[k % i.1]?).getD .any) (parts.map λ p => (p.1, s.ev p.2)) with
    | some cs =>
     bif T.bm d then
      (match s.bx d, s.tk (vk d) with
      | none, none => if s.nin <= d then some [.box d (some cs), .tok (vk d) false, .tok (vm d) false, .env d (.vs d 0 len i.1)] else none
      | _, _ => none)
     else some [.tok (tD d 0) true, .env d (.list i.1 (zp cs i.1 len) (some (tD d 0)))]
    | none => none)
   else none
  | _, _, _ => none)
 | _ => none
def zX (s : AS) (d : Nat) (i : Nat × Nat) (x : AV) (l2 : Nat) (as2 : List AV) : Option (List Wr) :=
 match s.bx d, s.tk (vk d) with
 | none, none =>
  if s.nin <= d then
   (match x with
   | .v z => (match z with
    | .slice none 0 0 => if l2 * i.2 <= zd then some [.box d (some as2), .tok (vk d) false, .tok (vm d) false, .env d (.vs d 0 l2 i.1)] else none
    | _ => none)
   | .vs b off len n =>
    if off = 0 /\ n = i.1 /\ s.nin <= b /\ b ≠ d then
     (match s.bx b, s.tk (vk b) with
     | some cs, some _ => if len * n <= cs.length /\ (len + l2) * i.2 <= zd then some [.box b none, .box d (some (cs.take (len * n) ++ as2)), .tok (vk d) false, .tok (vm d) false, .env d (.vs d 0 (len + l2) i.1)] else none
     | _, _ => none)
    else none
   | _ => none)
  else none
 | _, _ => none
def jG (s : AS) (d : Nat) (i : Nat × Nat) (x : AV) (ys : List (List AV)) : Option (List Wr) := zX s d i x ys.length ys.flatten
def ZY (T : Tab) (s : AS) (d : Nat) (t : TypeId) (x y : Operand) : Option (List Wr) :=
 match T.u t with
 | some (.slice e) =>
  (match T.i e, T.z e, s.tk (tD d 0) with
  | some i, some z, none =>
   if z.length = i.1 /\ 0 < i.1 /\ 0 < i.2 then
    (match s.ev y with
    | .list m ys _ =>
     if m = i.1 then
      bif T.bm d then jG s d i (s.ev x) ys else
      (match s.ev x with
      | .v (.slice none 0 0) => if ys.length * i.2 <= zd then some [.tok (tD d 0) true, .env d (.list i.1 ys (some (tD d 0)))] else none
      | .list n xs (some k) =>
       if n = i.1 then
        (match s.tk k with
        | some true => if (xs.length + ys.length) * i.2 <= zd then some [.tok k false, .tok (tD d 0) true, .env d (.list i.1 (xs ++ ys) (some (tD d 0)))] else none
        | _ => none)
       else none
      | _ => none)
     else none
    | _ => none)
   else none
  | _, _, _ => none)
 | _ => none
section
variable {P : Program} {T : Tab} {B : Base} {M : Mem} {ρ : Rho} {σ : Sig} {s : AS} {a : Act} {w : World}
theorem zc3 {t : TypeId} {v : Value} (w : World) : (newVar t v).run P w = .ok ⟨w.heap.size, 0, none⟩ (w.alloc (.cells v.cells t)) := by
 simp [newVar, newRow]
theorem zeg (h : SimW B M ρ σ s a w) (d : Nat) (hd : s.nin <= d) (hf : s.bx d = none) (ht : s.tk (vk d) = none) (ccs : Array Value) (t : TypeId) (cs : List AV) (hp : Pw M ρ σ ccs cs) :
  Sim B (s.aps [.box d (some cs), .env d (.ptr d 0)]) (a.put (some d) (.pointer (some ⟨w.heap.size, 0, none⟩))) (w.alloc (.cells ccs t)) :=
 ⟨M, _, σ, (h.newbox d hd hf ht ccs t cs (Nat.le_of_eq hp.1.symm) (λ i hi => hp.2.1 i hi) hp.2.2).put (.ptr (by simp [zam])) d⟩
theorem zcW (h : SimW B M ρ σ s a w) (d : Nat) (hd : s.nin <= d) (hf : s.bx d = none) (ht : s.tk (vk d) = none) (ccs : Array Value) (t : TypeId) (cs : List AV) (hl : cs.length <= ccs.size) (h1 : ∀ i (h : i < ccs.size), (ccs[i]).oneCell' = true) (hr : ∀ i (h : i < ccs.size) (h' : i < cs.length), Rd M ρ σ ccs[i] cs[i]) (len cap n : Nat) (hlc : len <= cap) (hcap : cap * n = ccs.size) :
  Sim B (s.aps [.box d (some cs), .tok (vk d) false, .tok (vm d) false, .env d (.vs d 0 len n)]) (a.put (some d) (.slice (some ⟨w.heap.size, 0, none⟩) len cap)) (w.alloc (.cells ccs t)) := by
 have h2 := h.newbox d hd hf ht ccs t cs hl h1 hr
 have h3 := h2.setcap (vk d) ht ⟨w.heap.size, 0, ccs.size⟩ ⟨ccs, t, At.new w _ _ h1, Nat.le_refl _⟩
 refine ⟨M, _, _, (h3.tokdead (vm d)).put (v := .vs d 0 len n) ?_ d⟩
 have := Rd.vs (M := M) (ρ := zam ρ d w.heap.size) (σ := jd σ (vk d) ⟨w.heap.size, 0, ccs.size⟩) (b := d) (g := w.heap.size) (off := 0) (len := len) (cap := cap) (n := n) (by simp [zam]) hlc ⟨⟨w.heap.size, 0, ccs.size⟩, by simp [jd], rfl, by simpa using hcap⟩
 simpa using this
theorem zpg (hT : TabOk P T) (h : SimW B M ρ σ s a w) {o : Oper} {d : Nat} {t : TypeId} (ho : o.op = .alloc t) (hd : o.dst = some d) {W : List Wr} (hs : zeG T s d t = some W) (K : Act -> World -> Prop) (Q : Exit -> Act -> World -> Prop) (hK : ∀ a' w', Sim B (s.aps W) a' w' -> K a' w') : o.wp P a w K Q := by
 unfold zeG at hs
 split at hs
 ·rename_i z hz hb ht
  split at hs
  ·rename_i hlt
   cases hs
   obtain ⟨zv, z1, z2, -⟩ := Zb hT hz
   refine Zc (v := .pointer (some ⟨w.heap.size, 0, none⟩)) (w' := w.alloc (.cells zv.cells t)) ?_ (hK _ _ ?_)
   ·unfold execOp
    simp only [ho, Instr.alloc, Sem.run_bind, z1, Result.andThen_ok, zc3, Sem.run_pure]
   ·rw [hd]; exact zeg h d hlt hb ht zv.cells t z (z2 M ρ σ)
  ·cases hs
 ·cases hs
theorem zyW (h : SimW B M ρ σ s a w) {o : Oper} {d : Nat} {t : TypeId} {x : Operand} (ho : o.op = .box t x) (hd : o.dst = some d) {W : List Wr} (hs : zpn s d x = some W) (K : Act -> World -> Prop) (Q : Exit -> Act -> World -> Prop) (hK : ∀ a' w', Sim B (s.aps W) a' w' -> K a' w') : o.wp P a w K Q := by
 unfold zpn at hs
 split at hs
 ·rename_i z hz hb ht
  split at hs
  ·rename_i hlt
   cases hs
   refine Zc (v := .pointer (some ⟨w.heap.size, 0, none⟩)) (w' := w.alloc (.cells (a.eval x).cells t)) ?_ (hK _ _ ?_)
   ·unfold execOp
    simp only [ho, Instr.box, Sem.run_bind, Result.andThen_ok, zc3, Sem.run_pure]
   ·rw [hd]; exact zeg h d hlt hb ht _ t z (zeT (h.ev x) hz)
  ·cases hs
 ·cases hs
theorem zqw (hT : TabOk P T) (h : SimW B M ρ σ s a w) {o : Oper} {t : TypeId} {x y : Operand} (ho : o.op = .store t x y) (hd : o.dst = none) {W : List Wr} (hs : zaX T s t x y = some W) (K : Act -> World -> Prop) (Q : Exit -> Act -> World -> Prop) (hK : ∀ a' w', Sim B (s.aps W) a' w' -> K a' w') : o.wp P a w K Q := by
 unfold zaX at hs
 have hx := h.ev x
 split at hs
 ·rename_i b off p hxe hi
  obtain ⟨i, hi, hp1, hp2⟩ := hT.i _ _ hi
  rw [<- hp1] at hs
  rw [hxe] at hx
  split at hs
  ·rename_i cs new hb hn
   split at hs
   ·rename_i hsz
    split at hs
    ·rename_i hfit
     cases hs
     generalize hq : a.eval x = xv at hx
     cases hx with
     | @ptr _ _ _ _ g hg =>
      obtain ⟨c1, c2, c3⟩ := zeT (h.ev y) hn
      obtain ⟨hb, hnm⟩ := AS.cx_some hb
      rcases h.box b cs hb with ⟨-, e⟩ | ⟨g', hg', hh0, r5, r6⟩
      ·rw [hg] at e; cases e
      rw [hg] at hg'
      cases hg'
      obtain ⟨ccs, ty, r1, r2, r3, r4⟩ := hh0.cells hnm
      refine zjm (w' := w.setCells g off (a.eval y).cells.toList) ?_ (hK _ _ ?_)
      ·have hst := run_storeCells_cells (P := P) g off (a.eval y).cells.toList 0 w (λ j hj => by
        rw [zY r1, Array.getElem?_eq_getElem (by simp at hj; omega)]; rfl) (λ j hj => r1.frz (by simp at hj; omega)) (λ v hv => by
        obtain ⟨j, hj, e⟩ := List.getElem_of_mem hv
        rw [<- e]; simpa using c2 j (by simpa using hj))
       unfold execOp
       simp only [ho, hq, Instr.storeAt, Instr.sureAddr, storeVar, Sem.run_bind, Sem.run_pure, Result.andThen_ok, zk hi]
       have e1 : ¬ ((a.eval y).cells.size ≠ i.size) := by omega
       simp only [e1, if_false, Sem.run_bind, Sem.run_pure, Result.andThen_ok]
       simp only [Nat.add_zero] at hst
       simp [hst]
      ·rw [hd]
       refine ⟨M, ρ, σ, h.store b g cs hb (.inl hnm) hg off (a.eval y).cells.toList new (by simpa using c1) hfit (λ j hj => by simpa using c2 j (by simpa using hj)) (λ j hj hj' => by simpa using c3 j (by simpa using hj) hj')⟩
    ·cases hs
   ·cases hs
  ·cases hs
 ·cases hs
theorem zS (sz : Nat) : ∀ (n : Nat) (cs : List AV), (zp cs sz n).length = n
 | 0, _ => rfl
 | n + 1, cs => by simp [zp, zS sz n]
theorem jx (sz : Nat) : ∀ (n : Nat) (cs : List AV) (i : Nat) (h : i < (zp cs sz n).length), cs.length = n * sz -> ((zp cs sz n)[i]).length = sz /\ ∀ j (h2 : j < ((zp cs sz n)[i]).length) (h3 : i * sz + j < cs.length), ((zp cs sz n)[i])[j] = dat0 cs[i * sz + j]
 | 0, cs, i, h, _ => by simp [zp] at h
 | n + 1, cs, 0, h, hl => by
  rw [Nat.add_mul] at hl
  refine ⟨by simp [zp]; omega, λ j h2 h3 => by simp [zp]⟩
 | n + 1, cs, i + 1, h, hl => by
  rw [Nat.add_mul] at hl
  have hi : i < (zp (cs.drop sz) sz n).length := by rw [zS] at h |-; omega
  obtain ⟨h1, h2⟩ := jx sz n (cs.drop sz) i hi (by simp; omega)
  refine ⟨by simpa [zp] using h1, λ j h3 h4 => ?_⟩
  have := h2 j (by simpa [zp] using h3) (by simp [Nat.add_mul] at h4 |-; omega)
  simp only [zp, List.getElem_cons_succ, this, List.getElem_drop]
  congr 2
  rw [Nat.add_mul]; omega
theorem zeS (hT : TabOk P T) (h : SimW B M ρ σ s a w) {o : Oper} {d : Nat} {t : TypeId} {len : Nat} {parts : Array (Nat × Operand)} (ho : o.op = .buildSlice t len parts) (hd : o.dst = some d) {W : List Wr} (hs : jm T s d t len parts.toList = some W) (K : Act -> World -> Prop) (Q : Exit -> Act -> World -> Prop) (hK : ∀ a' w', Sim B (s.aps W) a' w' -> K a' w') : o.wp P a w K Q := by
 unfold jm at hs
 split at hs
 ·rename_i e hu
  replace hu := hT.u _ _ hu
  split at hs
  ·rename_i p z hi hz htk
   obtain ⟨i, hi, hp1, hp2⟩ := hT.i _ _ hi
   rw [<- hp1] at hs
   split at hs
   ·rename_i hc
    obtain ⟨c1, c2, c3⟩ := hc
    split at hs
    ·rename_i cs hf
     obtain ⟨zv, z1, z2, -⟩ := Zb hT hz
     obtain ⟨p1, p2, p3⟩ := z2 M ρ σ
     have hbase : Pw M ρ σ ((Array.range (len * i.size)).map (zv.cells[· % zv.cells.size]!)) ((List.range (len * i.size)).map λ k => (z[k % i.size]?).getD .any) := by
      have e1 : zv.cells.size = i.size := by omega
      refine ⟨by simp, λ j hj => ?_, λ j hj hj' => ?_⟩
      ·have : j % i.size < zv.cells.size := by rw [e1]; exact Nat.mod_lt _ c2
       simp only [Array.getElem_map, Array.getElem_range, e1]
       rw [getElem!_pos zv.cells (j % i.size) this]; exact p2 _ _
      ·have q1 : j % i.size < zv.cells.size := by rw [e1]; exact Nat.mod_lt _ c2
       have q2 : j % i.size < z.length := by omega
       simp only [Array.getElem_map, Array.getElem_range, e1, List.getElem_map, List.getElem_range]
       rw [getElem!_pos zv.cells (j % i.size) q1, List.getElem?_eq_getElem q2]
       exact p3 _ _ _
     obtain ⟨cr, f1, f2⟩ := zbz (a := a) (s := s) (M := M) (ρ := ρ) (σ := σ) (λ k => some (k * i.size, i.size)) parts.toList _ cs _ h.ev hbase hf
     have hcl : cs.length = len * i.size := by
      have : ∀ (parts : List (Nat × AV)) (x y : List AV), zfU (λ k => some (k * i.size, i.size)) x parts = some y -> y.length = x.length := by
       intro parts
       induction parts with
       | nil => intro x y h; cases h; rfl
       | cons p r ih =>
        intro x y h
        simp only [zfU] at h
        split at h
        ·split at h
         ·rw [ih _ _ h, zB]
         ·cases h
        ·cases h
      rw [this _ _ _ hf]; simp
     have hcr : cr.size = len * i.size := by rw [f2.1, hcl]
     have fin : Sim B (s.aps W) (a.put (some d) (.slice (some ⟨w.heap.size, 0, none⟩) len len)) (w.alloc (.cells cr e)) -> o.wp P a w K Q := λ hfin => by
      refine Zc (v := .slice (some ⟨w.heap.size, 0, none⟩) len len) (w' := w.alloc (.cells cr e)) ?_ (hK _ _ (by rw [hd]; exact hfin))
      unfold execOp
      have g1 : ¬ (16777216 < len * i.size) := by omega
      simp only [ho, Instr.buildSlice, Sem.run_bind, Sem.run_pure, Result.andThen_ok, ze hu, zk hi, gt_iff_lt, show (2 : Nat) ^ 24 = 16777216 from rfl, g1, if_false]
      by_cases h0 : len * i.size = 0
      ·simp only [h0, if_true, Sem.run_bind, Sem.run_pure, Result.andThen_ok, Array.toList_map]
       rw [h0] at f1
       have e0 : ∀ (f g : Nat -> Value), (Array.range 0).map f = (Array.range 0).map g := λ f g => by simp
       rw [e0 _ (zv.cells[· % zv.cells.size]!), f1]
       simp [newRow]
      ·simp only [h0, if_false, Sem.run_bind, z1, Sem.run_pure, Result.andThen_ok, Array.toList_map, f1]
       simp [newRow]
     refine fin ?_
     cases hbm : T.bm d with
     | true =>
      rw [hbm] at hs
      simp only [cond_true] at hs
      split at hs
      ·rename_i hb hv
       split at hs
       ·rename_i hni
        cases hs
        exact zcW h d hni hb hv cr e cs (Nat.le_of_eq f2.1.symm) (λ i hi => f2.2.1 i hi) f2.2.2 len len i.size (Nat.le_refl _) hcr.symm
       ·cases hs
      ·cases hs
     | false =>
      rw [hbm] at hs
      simp only [cond_false] at hs
      cases hs
      have nr := h.newrow (tD d 0) htk cr e (λ i hi => f2.2.1 i hi) cr.size (Nat.le_refl _)
      have et : cr.toList.take cr.size = cr.toList := by rw [List.take_of_length_le (by simp)]
      rw [et] at nr
      refine ⟨_, ρ, _, nr.put (v := .list i.size (zp cs i.size len) (some (tD d 0))) ?_ d⟩
      have hone : ∀ i' j, ((cr[i' * i.size + j]?).getD (.bool true)).oneCell' = true := λ i' j => by
       cases hq : cr[i' * i.size + j]? with
       | none => rfl
       | some v =>
        obtain ⟨q1, q2⟩ := Array.getElem?_eq_some_iff.1 hq
        simp only [Option.getD_some]; rw [<- q2]; exact f2.2.1 _ _
      have hidx : ∀ i' j, i' < len -> j < i.size -> i' * i.size + j < len * i.size := λ i' j h1 h2 => by
       have := Nat.mul_le_mul_right i.size (Nat.succ_le_of_lt h1)
       rw [Nat.succ_mul] at this; omega
      refine .list (λ i' j => (cr[i' * i.size + j]?).getD (.bool true)) (zS _ _ _) (Nat.le_refl _) (λ i' hi' => (jx _ _ _ _ hi' hcl).1) (λ i' j h1 h2 => ?_) hone (λ i' j h1 h2 => ?_) (λ k hk => ?_)
      ·rw [zS] at h1
       have hx := hidx i' j h1 h2
       unfold za6
       rw [if_pos ⟨rfl, by omega, by simp; omega⟩]
       rw [show 0 + i' * i.size + j - 0 = i' * i.size + j by omega]
       rw [Array.getElem?_eq_getElem (by omega)]
       simp
      ·obtain ⟨q1, q2⟩ := jx _ _ _ _ h1 hcl
       have h1' := h1
       rw [zS] at h1'
       have hx := hidx i' j h1' (by rw [<- q1]; exact h2)
       rw [q2 j h2 (by omega), Array.getElem?_eq_getElem (by omega)]
       refine Rd.dat0 (ρ := ρ) (σ := σ) ?_
       exact (f2.2.2 _ _ _).mono (Jy λ o _ _ => h.free (Nat.le_refl _) o) _ _ (λ _ _ h => h) (λ _ _ h => h)
      ·cases hk
       exact .inr ⟨⟨w.heap.size, cr.size, cr.size⟩, by simp [jd], rfl, by simp [hcr], by simp [hcr], 0, by simp⟩
    ·cases hs
   ·cases hs
  ·cases hs
 ·cases hs
end
end
section
open Go.RowKit
def zH (n sz : Nat) (cf : Nat -> Nat -> Value) : List Value := (List.range (n * sz)).map λ q => cf (q / sz) (q % sz)
theorem zi (n sz : Nat) (cf : Nat -> Nat -> Value) : (zH n sz cf).length = n * sz := by simp [zH]
theorem jy {n sz : Nat} {cf : Nat -> Nat -> Value} {q : Nat} (h : q < n * sz) : (zH n sz cf)[q]? = some (cf (q / sz) (q % sz)) := by
 unfold zH
 rw [List.getElem?_map, List.getElem?_range h]
 rfl
theorem zbE {n sz : Nat} {cf : Nat -> Nat -> Value} (h : ∀ i j, (cf i j).oneCell' = true) (i : Nat) (hi : i < (zH n sz cf).length) : ((zH n sz cf)[i]).oneCell' = true := by
 simp only [zH, List.getElem_map]
 exact h _ _
theorem zoA {zs : Array Value} (h : ∀ i (q : i < zs.size), (zs[i]).oneCell' = true) (n i : Nat) (hi : i < (Builtin.zeroCells zs n).size) : ((Builtin.zeroCells zs n)[i]).oneCell' = true := by
 have h0 : 0 < zs.size := by
  rcases Nat.eq_zero_or_pos zs.size with e | e
  ·unfold Builtin.zeroCells at hi
   simp [e] at hi
  ·exact e
 simp only [Builtin.zeroCells, Array.getElem_map]
 rw [getElem!_pos zs _ (by simp; exact Nat.mod_lt _ h0)]
 exact h _ _
theorem zeN {a b : Array Value} (h : ∀ i (q : i < a.size), (a[i]).oneCell' = true) (h' : ∀ i (q : i < b.size), (b[i]).oneCell' = true) (i : Nat) (hi : i < (a ++ b).size) : ((a ++ b)[i]).oneCell' = true := by
 rw [Array.getElem_append]
 split
 ·exact h _ _
 ·exact h' _ _
theorem zfg {a : List Value} (h : ∀ i (q : i < a.length), (a[i]).oneCell' = true) (i : Nat) (hi : i < a.toArray.size) : (a.toArray[i]).oneCell' = true := by
 simp only [List.getElem_toArray]
 exact h _ _
theorem zng (w : World) (e : TypeId) (b : ByteArray) : ∀ i (q : i < (Lib.bytesCells w e b).size), ((Lib.bytesCells w e b)[i]).oneCell' = true := λ i q => by
 simp only [Lib.bytesCells]
 rw [Array.getElem_append]
 split
 ·rw [Array.getElem_map]; rfl
 ·rw [Array.getElem_replicate]; rfl
theorem ze4 {n sz : Nat} {cf : Nat -> Nat -> Value} {i j : Nat} (hi : i < n) (hj : j < sz) : (zH n sz cf)[i * sz + j]? = some (cf i j) := by
 have h : i * sz + j < n * sz := by
  have := Nat.mul_le_mul_right sz (Nat.succ_le_of_lt hi)
  rw [Nat.succ_mul] at this; omega
 rw [jy h]
 have e1 : (i * sz + j) / sz = i := by rw [Nat.mul_comm, Nat.mul_add_div (by omega), Nat.div_eq_of_lt hj]; omega
 have e2 : (i * sz + j) % sz = j := by rw [Nat.mul_comm, Nat.mul_add_mod, Nat.mod_eq_of_lt hj]
 rw [e1, e2]
section
variable {P : Program} {T : Tab} {B : Base} {M : Mem} {ρ : Rho} {σ : Sig} {s : AS} {a : Act} {w : World}
structure SrcL (M : Mem) (w : World) (sz : Nat) (g off : Nat) (xs : List (List AV)) (cf : Nat -> Nat -> Value) : Prop where
 hn : ∀ i (h : i < xs.length), (xs[i]).length = sz
 hm : ∀ i j, i < xs.length -> j < sz -> M g (off + i * sz + j) = some (cf i j)
 ho : ∀ i j, (cf i j).oneCell' = true
 hr : ∀ i j (h : i < xs.length) (h' : j < (xs[i]).length), Rd M JD jE (cf i j) ((xs[i])[j])
theorem SrcL.cells {sz g off : Nat} {xs : List (List AV)} {cf : Nat -> Nat -> Value} (hs : SrcL M w sz g off xs cf) (hsz : 0 < sz) (mem : ∀ g o c, M g o = some c -> w.cell? ⟨g, o, none⟩ = some c) :
  ∀ j v, (zH xs.length sz cf)[j]? = some v -> w.cell? ((⟨g, off, none⟩ : Addr).add j) = some v := λ q v hq => by
 have hlt : q < xs.length * sz := by
  have := (List.getElem?_eq_some_iff.1 hq).1
  rwa [zi] at this
 rw [jy hlt] at hq
 cases hq
 have e : (q / sz) * sz + q % sz = q := by rw [Nat.mul_comm]; exact Nat.div_add_mod q sz
 have := hs.hm (q / sz) (q % sz) (by rw [Nat.div_lt_iff_lt_mul hsz]; exact hlt) (Nat.mod_lt _ hsz)
 rw [Nat.add_assoc, e] at this
 rw [Addr.add_mid]
 exact mem _ _ _ this
theorem zac {n sz : Nat} {cf : Nat -> Nat -> Value} (h : ∀ i j, (cf i j).oneCell' = true) : ∀ u ∈ zH n sz cf, u.oneCell' = true := λ u hu => by
 unfold zH at hu
 obtain ⟨q, -, rfl⟩ := List.mem_map.1 hu
 exact h _ _
theorem SrcL.nil {sz g off : Nat} {cf : Nat -> Nat -> Value} (ho : ∀ i j, (cf i j).oneCell' = true) : SrcL M w sz g off [] cf := ⟨(λ i h => by cases h), (λ i j h => by cases h), ho, (λ i j h => by cases h)⟩
def zpv (n : Nat) (cf cf2 : Nat -> Nat -> Value) : Nat -> Nat -> Value := λ i j => if i < n then cf i j else cf2 (i - n) j
theorem SrcL.app {M' : Mem} {sz g off g2 off2 g' off' : Nat} {xs ys : List (List AV)} {cf cf2 : Nat -> Nat -> Value} (h1 : SrcL M w sz g off xs cf) (h2 : SrcL M w sz g2 off2 ys cf2) (sub : ∀ g o c, M g o = some c -> M' g o = some c)
  (a1 : ∀ i j, i < xs.length -> j < sz -> M' g' (off' + i * sz + j) = some (cf i j)) (a2 : ∀ i j, i < ys.length -> j < sz -> M' g' (off' + (xs.length + i) * sz + j) = some (cf2 i j)) : SrcL M' w sz g' off' (xs ++ ys) (zpv xs.length cf cf2) := by
 refine ⟨λ i hi => ?_, λ i j hi hj => ?_, λ i j => ?_, λ i j hi hj => ?_⟩
 ·by_cases hx : i < xs.length
  ·rw [List.getElem_append_left hx]; exact h1.hn i hx
  ·rw [List.getElem_append_right (by omega)]; exact h2.hn _ _
 ·unfold zpv
  by_cases hx : i < xs.length
  ·rw [if_pos hx]; exact a1 i j hx hj
  ·rw [if_neg hx]
   rw [List.length_append] at hi
   have := a2 (i - xs.length) j (by omega) hj
   rwa [show xs.length + (i - xs.length) = i by omega] at this
 ·unfold zpv; split
  ·exact h1.ho _ _
  ·exact h2.ho _ _
 ·unfold zpv
  by_cases hx : i < xs.length
  ·rw [if_pos hx]
   have e : (xs ++ ys)[i] = xs[i] := List.getElem_append_left hx
   have hj' : j < (xs[i]).length := by rw [<- e]; exact hj
   have := (h1.hr i j hx hj').mono sub _ _ (λ _ _ h => h) (λ _ _ h => h)
   simp only [e]; exact this
  ·rw [if_neg hx]
   rw [List.length_append] at hi
   have e : (xs ++ ys)[i]'(by rw [List.length_append]; exact hi) = ys[i - xs.length]'(by omega) := List.getElem_append_right (by omega)
   have hj' : j < (ys[i - xs.length]'(by omega)).length := by rw [<- e]; exact hj
   have := (h2.hr (i - xs.length) j (by omega) hj').mono sub _ _ (λ _ _ h => h) (λ _ _ h => h)
   simp only [e]; exact this
theorem SrcL.rd {sz g off len cap : Nat} {xs : List (List AV)} {cf : Nat -> Nat -> Value} (h : SrcL M w sz g off xs cf) (hl : xs.length = len) (hc : len <= cap) {t : Option Nat} (ht : TokOk σ t g sz off (off + len * sz) (off + cap * sz)) : Rd M ρ σ (.slice (some ⟨g, off, none⟩) len cap) (.list sz xs t) :=
 .list cf hl hc h.hn h.hm h.ho h.hr ht
theorem zck (h : SimW B M ρ σ s a w) (d τ : Nat) (htk : s.tk τ = none) {e : TypeId} {sz : Nat} (hsz : 0 < sz) {xs ys : List (List AV)} {cf cf2 : Nat -> Nat -> Value} {g off g2 off2 : Nat} (h1 : SrcL M w sz g off xs cf) (h2 : SrcL M w sz g2 off2 ys cf2)
  (cap : Nat) (hcap : xs.length + ys.length <= cap) (zs : Array Value) (hz : zs.size = (cap - (xs.length + ys.length)) * sz) (hzo : ∀ i (q : i < zs.size), (zs[i]).oneCell' = true) :
  ∃ M' ρ' σ', SimW B M' ρ' σ' ((s.ap (.tok τ true)).ap (.env d (.list sz (xs ++ ys) (some τ)))) (a.put (some d) (.slice (some ⟨w.heap.size, 0, none⟩) (xs.length + ys.length) cap)) (w.drew.alloc (.cells ((zH xs.length sz cf).toArray ++ (zH ys.length sz cf2).toArray ++ zs) e)) := by
 have hsize : ((zH xs.length sz cf).toArray ++ (zH ys.length sz cf2).toArray ++ zs).size = cap * sz := by
  simp only [Array.size_append, List.size_toArray, zi, hz, <- Nat.add_mul]
  congr 1; omega
 have hle : (xs.length + ys.length) * sz <= cap * sz := Nat.mul_le_mul_right _ hcap
 have nr := h.drew.newrow τ htk ((zH xs.length sz cf).toArray ++ (zH ys.length sz cf2).toArray ++ zs) e (zeN (zeN (zfg (zbE h1.ho)) (zfg (zbE h2.ho))) hzo) ((xs.length + ys.length) * sz) (by rw [hsize]; exact hle)
 have et : ((zH xs.length sz cf).toArray ++ (zH ys.length sz cf2).toArray ++ zs).toList.take ((xs.length + ys.length) * sz) = zH xs.length sz cf ++ zH ys.length sz cf2 := by
  simp only [Array.toList_append]
  rw [List.take_left' (by simp [zi, Nat.add_mul])]
 rw [et] at nr
 have hl0 : (zH xs.length sz cf ++ zH ys.length sz cf2).length = (xs.length + ys.length) * sz := by simp [zi, Nat.add_mul]
 have sub : ∀ g o c, M g o = some c -> za6 M w.heap.size 0 (zH xs.length sz cf ++ zH ys.length sz cf2) g o = some c := Jy λ o _ _ => h.free (Nat.le_refl _) o
 have hidx : ∀ n i j, i < n -> j < sz -> i * sz + j < n * sz := λ n i j h1 h2 => by
  have := Nat.mul_le_mul_right sz (Nat.succ_le_of_lt h1)
  rw [Nat.succ_mul] at this; omega
 refine ⟨_, ρ, _, nr.put (v := .list sz (xs ++ ys) (some τ)) (SrcL.rd (SrcL.app h1 h2 sub (λ i j hi hj => ?_) (λ i j hi hj => ?_)) (by simp) hcap ?_) d⟩
 ·unfold za6
  have hx := hidx _ i j hi hj
  rw [if_pos ⟨rfl, by omega, by rw [hl0, Nat.add_mul]; omega⟩, List.getElem?_append_left (by rw [zi]; omega), show 0 + i * sz + j - 0 = i * sz + j by omega]
  exact ze4 hi hj
 ·unfold za6
  have hx := hidx _ i j hi hj
  have e : 0 + (xs.length + i) * sz + j = xs.length * sz + (i * sz + j) := by rw [Nat.add_mul]; omega
  rw [e, if_pos ⟨rfl, by omega, by rw [hl0, Nat.add_mul]; omega⟩, List.getElem?_append_right (by rw [zi]; omega), zi, show xs.length * sz + (i * sz + j) - 0 - xs.length * sz = i * sz + j by omega]
  exact ze4 hi hj
 ·intro k hk
  cases hk
  refine .inr ⟨⟨w.heap.size, (xs.length + ys.length) * sz, cap * sz⟩, ?_, rfl, by simp, by simp, 0, by simp⟩
  simp only [jd, if_true, hsize]; rfl
theorem zfY (h : SimW B M ρ σ s a w) (d τ k : Nat) (htk : s.tk τ = none) (hk : s.tk k = some true) {sz : Nat} (hsz : 0 < sz) {xs ys : List (List AV)} {cf cf2 : Nat -> Nat -> Value} {g off g2 off2 : Nat} (h1 : SrcL M w sz g off xs cf) (h2 : SrcL M w sz g2 off2 ys cf2)
  (cap : Nat) (hcap : xs.length + ys.length <= cap) (ht : TokOk σ (some k) g sz off (off + xs.length * sz) (off + cap * sz)) :
  (∀ j, j < ys.length * sz -> (w.cell? ⟨g, off + xs.length * sz + j, none⟩).isSome = true /\ w.frozen? ⟨g, off + xs.length * sz + j, none⟩ = false) /\
  ∃ M' ρ' σ', SimW B M' ρ' σ' (((s.ap (.tok k false)).ap (.tok τ true)).ap (.env d (.list sz (xs ++ ys) (some τ)))) (a.put (some d) (.slice (some ⟨g, off, none⟩) (xs.length + ys.length) cap)) (w.setCells g (off + xs.length * sz) (zH ys.length sz cf2)) := by
 have hidx : ∀ n i j, i < n -> j < sz -> i * sz + j < n * sz := λ n i j h1 h2 => by
  have := Nat.mul_le_mul_right sz (Nat.succ_le_of_lt h1)
  rw [Nat.succ_mul] at this; omega
 have hle : (xs.length + ys.length) * sz <= cap * sz := Nat.mul_le_mul_right _ hcap
 rw [Nat.add_mul] at hle
 rcases ht k rfl with he | ⟨sp, hsp, rfl, hlo, hhi, hq⟩
 ·have hy : ys = [] := by
   have : ys.length * sz = 0 := by omega
   rcases Nat.mul_eq_zero.1 this with x | x
   ·exact List.length_eq_zero_iff.1 x
   ·omega
  subst hy
  refine ⟨λ j hj => by simp at hj, M, ρ, σ, ?_⟩
  have e0 : w.setCells g (off + xs.length * sz) (zH ([] : List (List AV)).length sz cf2) = w := by simp [zH, World.setCells]
  rw [e0]
  have htk' : (s.ap (.tok k false)).tk τ = none := by
   rw [AS.tk_set]
   split
   ·rename_i e; rw [e, hk] at htk; cases htk
   ·exact htk
  refine ((h.tokdead k).tokfree τ htk').put (v := .list sz (xs ++ []) (some τ)) ?_ d
  rw [List.append_nil]
  exact SrcL.rd h1 rfl (by simpa using hcap) (λ k' hk' => .inl (by simpa using he))
 ·obtain ⟨hbase, hb1, hnone, hrho⟩ := h.tok k sp hk hsp
  obtain ⟨ccs, ty, hrow, hb2⟩ := h.cap k sp hsp
  have hfl : (zH ys.length sz cf2).length = ys.length * sz := zi _ _ _
  have nr := h.inplace k τ hk sp hsp (zH ys.length sz cf2) (zbE h2.ho) (by omega) htk
  rw [hlo, hfl] at nr
  refine ⟨λ j hj => ⟨by rw [zY hrow, Array.getElem?_eq_getElem (by omega)]; rfl, hrow.frz (by omega)⟩, _, ρ, _, nr.put (v := .list sz (xs ++ ys) (some τ)) ?_ d⟩
  have sub : ∀ g o c, M g o = some c -> za6 M sp.g (off + xs.length * sz) (zH ys.length sz cf2) g o = some c := Jy λ o q1 q2 => hnone o (by omega) (by omega)
  refine SrcL.rd (SrcL.app h1 h2 sub (λ i j hi hj => sub _ _ _ (h1.hm i j hi hj)) (λ i j hi hj => ?_)) (by simp) hcap (λ k' hk' => ?_)
  ·unfold za6
   have hx := hidx _ i j hi hj
   have e : off + (xs.length + i) * sz + j = off + xs.length * sz + (i * sz + j) := by rw [Nat.add_mul]; omega
   rw [e, if_pos ⟨rfl, by omega, by omega⟩, show off + xs.length * sz + (i * sz + j) - (off + xs.length * sz) = i * sz + j by omega]
   exact ze4 hi hj
  ·cases hk'
   refine .inr ⟨⟨sp.g, off + xs.length * sz + ys.length * sz, sp.hi⟩, by simp [jd], rfl, by dsimp only; rw [Nat.add_mul]; omega, hhi, hq⟩
theorem SrcL.flat {sz g off : Nat} {xs : List (List AV)} {cf : Nat -> Nat -> Value} : ∀ (xs : List (List AV)) (cf : Nat -> Nat -> Value), (∀ i (h : i < xs.length), (xs[i]).length = sz) -> (∀ i j (h : i < xs.length) (h' : j < (xs[i]).length), Rd M JD jE (cf i j) ((xs[i])[j])) ->
  xs.flatten.length = xs.length * sz /\ ∀ q (h : q < xs.flatten.length), Rd M JD jE (cf (q / sz) (q % sz)) xs.flatten[q]
 | [], cf, _, _ => ⟨by simp, λ q h => by simp at h⟩
 | x :: xs, cf, hn, hr => by
  have hx : x.length = sz := hn 0 (by simp)
  obtain ⟨h1, h2⟩ := SrcL.flat xs (λ i j => cf (i + 1) j) (λ i h => hn (i + 1) (by simp; omega)) (λ i j h h' => hr (i + 1) j (by simp; omega) (by simpa using h')) (sz := sz) (g := g) (off := off) (xs := xs) (cf := cf)
  refine ⟨by rw [List.flatten_cons, List.length_append, h1, hx, List.length_cons, Nat.add_mul]; omega, λ q hq => ?_⟩
  simp only [List.flatten_cons]
  by_cases hlt : q < x.length
  ·rw [List.getElem_append_left hlt]
   have e1 : q / sz = 0 := Nat.div_eq_of_lt (by omega)
   have e2 : q % sz = q := Nat.mod_eq_of_lt (by omega)
   rw [e1, e2]
   exact hr 0 q (by simp) hlt
  ·have hle : x.length <= q := by omega
   rw [List.getElem_append_right hle]
   rw [List.flatten_cons, List.length_append] at hq
   have := h2 (q - x.length) (by omega)
   have hs0 : 0 < sz := by
    rcases Nat.eq_zero_or_pos sz with h0 | h0
    ·have : xs.flatten.length = 0 := by rw [h1, h0]; omega
     omega
    ·exact h0
   have e1 : q / sz = (q - x.length) / sz + 1 := by rw [hx]; exact Nat.div_eq_sub_div hs0 (by omega)
   have e2 : q % sz = (q - x.length) % sz := by rw [hx]; exact Nat.mod_eq_sub_mod (by omega)
   rw [e1, e2]
   exact this
theorem SimW.orphan (h : SimW B M ρ σ s a w) (g : Nat) (ccs : Array Value) (ty : TypeId) (hrow : At w g ccs ty) (hn : ∀ o, M g o = none) (hbase : B.w0.heap.size <= g) (hr : ∀ b, s.bx b ≠ none -> ρ b ≠ some g) (off : Nat) (vs : List Value) (hv : ∀ i (h : i < vs.length), (vs[i]).oneCell' = true) (hfit : off + vs.length <= ccs.size) : SimW B M ρ σ s a (w.setCells g off vs) := by
 have old : ∀ k, k ≠ g -> (w.setCells g off vs).heap[k]? = w.heap[k]? := λ k hk => Zo _ _ _ _ _ hk
 obtain ⟨ccs', hrow', hsz', hget⟩ := jH g ty vs off w ccs hrow hfit hv
 obtain ⟨f1, f2, f3, f4⟩ := ZE g vs off w
 have rowold : ∀ g' n, Row w g' n -> Row (w.setCells g off vs) g' n := λ g' n hq => by
  by_cases e : g' = g
  ·obtain ⟨c2, t2, q1, q2⟩ := hq
   rw [e] at q1
   obtain ⟨rfl, rfl⟩ := hrow.uniq q1
   exact ⟨ccs', ty, by rw [e]; exact hrow', by omega⟩
  ·exact hq.of_heap (old g' e)
 refine { h with defers := h.defers.keep λ D _ hd => (old D (ja hd hrow)).trans hd, mem := λ g' o c hm => ?_, os := f1.trans h.os, tape := f2.trans h.tape, output := f3.trans h.output, size := by rw [f4]; exact h.size, block := λ k h1 h2 h3 => ?_, box := λ b' cs' hb' => ?_, rws := λ g n hr => rowold g n (h.rws g n hr), rlt := λ b' g' hr' => by rw [f4]; exact h.rlt b' g' hr', cap := λ t sp hs => rowold _ _ (h.cap t sp hs) }
 ·have hne : g' ≠ g := λ e => by rw [e, hn] at hm; cases hm
  rw [zR (old g' hne)]; exact h.mem g' o c hm
 ·rw [old k (by omega)]; exact h.block k h1 h2 h3
 ·rcases h.box b' cs' hb' with q | ⟨g', q1, q2, q3, q4⟩
  ·exact .inl q
  ·have hne : g' ≠ g := λ e' => hr b' (j9 hb') (e' ▸ q1)
   exact .inr ⟨g', q1, q2.of_heap (old g' hne) λ _ _ h => h, q3, q4⟩
structure SrcF (M : Mem) (ρ : Rho) (σ : Sig) (w : World) (sz g off l2 : Nat) (as2 : List AV) (cf : Nat -> Nat -> Value) : Prop where
 cells : ∀ j v, (zH l2 sz cf)[j]? = some v -> w.cell? ((⟨g, off, none⟩ : Addr).add j) = some v
 ho : ∀ i j, (cf i j).oneCell' = true
 len : as2.length = l2 * sz
 rd : ∀ q (h : q < as2.length), Rd M ρ σ (cf (q / sz) (q % sz)) as2[q]
theorem zcj (h : SimW B M ρ σ s a w) {o : Oper} {d : Nat} {t e : TypeId} {i : TypeInfo} {zv : Value} {x y : Operand} (run : ∀ c w', (Builtin.append_ #[t, t] o.type #[a.eval x, a.eval y]).run P w = .ok c w' -> (execOp a.eval o).run P w = .ok (.value c) w') (hd : o.dst = some d) (hu : P.underlying t = some (.slice e)) (hi : P.info? e = some i) (hzv : i.zero = some zv) (zsz : zv.cells.size = i.size) (hzo : ∀ i (q : i < zv.cells.size), (zv.cells[i]).oneCell' = true) (c2 : 0 < i.size) (c3 : 0 < i.bytes) {yn : Nat} {as2 : List AV}
  (hsrc : (∃ g2 off2 len2 cap2 cf2, a.eval y = .slice (some ⟨g2, off2, none⟩) len2 cap2 /\ SrcF M ρ σ w i.size g2 off2 yn as2 cf2 /\ yn = len2) \/ ((∃ av, a.eval y = .slice av 0 0) /\ yn = 0 /\ as2 = [])) {W : List Wr} (hs : zX s d (i.size, i.bytes) (s.ev x) yn as2 = some W) (K : Act -> World -> Prop) (Q : Exit -> Act -> World -> Prop) (hK : ∀ a' w', Sim B (s.aps W) a' w' -> K a' w') : o.wp P a w K Q := by
 have hx := h.ev x
 have hzc : ∀ n : Nat, (Builtin.zeroCells zv.cells n).size = n * i.size := λ n => by rw [size_zeroCells, zsz]
 unfold zX at hs
 dsimp only at hs
 split at hs
 ·rename_i hbd htd
  split at hs
  ·rename_i hni
   -- a new row
   have grow : ∀ (s' : AS) (w' : World), SimW B M ρ σ s' a w' -> s'.nin <= d -> s'.bx d = none -> s'.tk (vk d) = none -> ∀ (cells1 : List Value) (as1 : List AV) (L : Nat), cells1.length = L * i.size -> as1.length = L * i.size -> (∀ j (h : j < cells1.length), (cells1[j]).oneCell' = true) -> (∀ j (h : j < cells1.length) (h' : j < as1.length), Rd M ρ σ cells1[j] as1[j]) -> ∀ (g2 off2 : Nat) (cf2 : Nat -> Nat -> Value), SrcF M ρ σ w i.size g2 off2 yn as2 cf2 -> ∀ cap, L + yn <= cap ->
     Sim B (s'.aps [.box d (some (as1 ++ as2)), .tok (vk d) false, .tok (vm d) false, .env d (.vs d 0 (L + yn) i.size)]) (a.put (some d) (.slice (some ⟨w'.heap.size, 0, none⟩) (L + yn) cap)) (w'.alloc (.cells (cells1.toArray ++ (zH yn i.size cf2).toArray ++ Builtin.zeroCells zv.cells (cap - (L + yn))) e)) := by
    intro s' w' h' q1 q2 q3 cells1 as1 L l1 l2 one1 rd1 g2 off2 cf2 hs2 cap hcap
    have f1 := hs2.len
    have f2 := hs2.rd
    have hsize : (cells1.toArray ++ (zH yn i.size cf2).toArray ++ Builtin.zeroCells zv.cells (cap - (L + yn))).size = cap * i.size := by
     simp only [Array.size_append, List.size_toArray, zi, hzc, l1, <- Nat.add_mul]
     congr 1; omega
    have hget : ∀ j (hj : j < (cells1.toArray ++ (zH yn i.size cf2).toArray ++ Builtin.zeroCells zv.cells (cap - (L + yn))).size), j < L * i.size + yn * i.size -> (cells1.toArray ++ (zH yn i.size cf2).toArray ++ Builtin.zeroCells zv.cells (cap - (L + yn)))[j] = (if hh : j < cells1.length then cells1[j] else cf2 ((j - L * i.size) / i.size) ((j - L * i.size) % i.size)) := λ j hj hlt => by
     rw [Array.getElem_append_left (by simp [zi, l1]; omega)]
     split
     ·rename_i hh
      rw [Array.getElem_append_left (by simpa using hh)]; simp
     ·rename_i hh
      rw [Array.getElem_append_right (by simpa using hh)]
      have hq : j - L * i.size < yn * i.size := by omega
      have := jy (cf := cf2) hq
      simp only [List.size_toArray, l1, List.getElem_toArray]
      rw [List.getElem?_eq_getElem (by rw [zi]; exact hq)] at this
      exact Option.some.inj this
    refine zcW h' d q1 q2 q3 _ e _ (by rw [hsize, List.length_append, l2, f1, <- Nat.add_mul]; exact Nat.mul_le_mul_right _ hcap) (zeN (zeN (zfg one1) (zfg (zbE hs2.ho))) (zoA hzo _)) (λ j hj hj' => ?_) (L + yn) cap i.size hcap hsize.symm
    ·have hj2 := hj'
     rw [List.length_append, l2, f1] at hj2
     rw [hget j hj hj2]
     split
     ·rename_i hh
      rw [List.getElem_append_left (by omega)]; exact rd1 _ _ _
     ·rename_i hh
      rw [List.getElem_append_right (by omega)]
      have := f2 (j - as1.length) (by rw [f1]; omega)
      simp only [l2] at this |-
      exact this
   -- nothing onto nothing
   have nothing : ∀ (c : Value), (c = .slice none 0 0 \/ ∃ g o, c = .slice (some ⟨g, o, none⟩) 0 0) -> ∀ (s' : AS), SimW B M ρ σ s' a w -> s'.nin <= d -> s'.bx d = none -> s'.tk (vk d) = none -> Sim B (s'.aps [.box d (some []), .tok (vk d) false, .tok (vm d) false, .env d (.vs d 0 0 i.size)]) (a.put (some d) c) w := by
    intro c hc s' h' q1 q2 q3
    refine ⟨M, ρ, σ, (((h'.ghost d q1 q2 q3).mark (vk d) q3).tokdead (vm d)).put (v := .vs d 0 0 i.size) ?_ d⟩
    rcases hc with rfl | ⟨g, o, rfl⟩
    ·exact .vsn
    ·exact .vse
   -- onto a slice without a cell
   have onEmpty : (a.eval x = .slice none 0 0 \/ ∃ g o, a.eval x = .slice (some ⟨g, o, none⟩) 0 0) -> yn * i.bytes <= zd -> ∀ s' : AS, SimW B M ρ σ s' a w -> s'.nin <= d -> s'.bx d = none -> s'.tk (vk d) = none -> (∀ a' w', Sim B (s'.aps [.box d (some as2), .tok (vk d) false, .tok (vm d) false, .env d (.vs d 0 yn i.size)]) a' w' -> K a' w') -> o.wp P a w K Q := by
    intro hxe hbd' s' h' q1 q2 q3 hK'
    rcases hsrc with ⟨g2, off2, len2, cap2, cf2, hye', hs2, hlen⟩ | ⟨⟨av, hye'⟩, rfl, rfl⟩
    ·by_cases h0 : len2 = 0
     ·have hl2 : yn = 0 := by omega
      have hys : as2 = [] := List.length_eq_zero_iff.1 (by rw [hs2.len, hl2, Nat.zero_mul])
      subst hl2
      subst hys
      refine Zc (v := a.eval x) (w' := w) (run _ _ ?_) (hK' _ _ ?_)
      ·rw [hye', h0]
       rcases hxe with hxe | ⟨g, q, hxe⟩ <;> rw [hxe] <;> simp [Builtin.append_, ze hu, zk hi, Builtin.lenOf, Builtin.firstCells, loadCells, loadCellsFrom, storeCells]
      ·rw [hd]; exact nothing _ hxe s' h' q1 q2 q3
     ·have h48 : len2 * i.bytes <= 281474976710656 := by rw [hlen] at hbd'; unfold zd at hbd'; omega
      have h63 : (len2 : Int) <= 9223372036854775807 := by
       have : len2 * 1 <= len2 * i.bytes := Nat.mul_le_mul_left _ c3
       omega
      have hc2 : ∀ j v, (zH len2 i.size cf2)[j]? = some v -> w.cell? ((⟨g2, off2, none⟩ : Addr).add j) = some v := by rw [<- hlen]; exact hs2.cells
      have gr := grow s' w.drew h'.drew q1 q2 q3 [] [] 0 (by simp) (by simp) (λ j hj => by cases hj) (λ j hj => by cases hj) g2 off2 cf2 hs2
      rcases hxe with hxe | ⟨g, q, hxe⟩
      ·have hr := run_append_nil (P := P) w t o.type e i zv hu hi hzv ⟨g2, off2, none⟩ len2 cap2 (zH len2 i.size cf2) (zi _ _ _) hc2 (by omega) h63 h48
       refine Zc (run _ _ (by rw [hxe, hye']; exact hr)) (hK' _ _ ?_)
       rw [hd]
       have := gr (grownCap w len2 0 e) (by simpa [hlen] using grownCap_ge w len2 0 e)
       simpa [zH, hlen] using this
      ·have hr := run_append_grow (P := P) w t o.type e i zv hu hi hzv ⟨g, q, none⟩ 0 0 [] (by simp) (λ j v hv => by simp at hv) ⟨g2, off2, none⟩ len2 cap2 (zH len2 i.size cf2) (zi _ _ _) hc2 (by omega) (by omega) (growslice_fits (by omega) (by rw [hlen] at hbd'; unfold zd at hbd'; rw [Nat.zero_add]; omega))
       refine Zc (run _ _ (by rw [hxe, hye']; exact hr)) (hK' _ _ ?_)
       rw [hd]
       have := gr (grownCap w (0 + len2) 0 e) (by simpa [hlen] using grownCap_ge w (0 + len2) 0 e)
       simpa [zH, hlen] using this
    ·refine Zc (v := a.eval x) (w' := w) (run _ _ ?_) (hK' _ _ ?_)
     ·rw [hye']
      cases av <;> rcases hxe with hxe | ⟨g, q, hxe⟩ <;> rw [hxe] <;> simp [Builtin.append_, ze hu, zk hi, Builtin.lenOf, Builtin.firstCells, storeCells, loadCells, loadCellsFrom]
     ·rw [hd]; exact nothing _ hxe s' h' q1 q2 q3
   split at hs
   ·rename_i z hxe
    rw [hxe] at hx
    split at hs
    ·split at hs
     ·rename_i hbd'
      cases hs
      exact onEmpty (.inl hx.v_inv) hbd' s h hni hbd htd hK
     ·cases hs
    ·cases hs
   ·rename_i b off len n hxe
    rw [hxe] at hx
    split at hs
    ·rename_i hc
     obtain ⟨rfl, rfl, hnb, hne⟩ := hc
     split at hs
     ·rename_i cs mk hcs hmk
      split at hs
      ·rename_i hc2
       obtain ⟨hfit, hbd'⟩ := hc2
       cases hs
       have hdr := h.drop b (by rw [hmk]; simp)
       have e1 : (s.ap (.box b none)).bx d = none := by
        rw [AS.bx_set]
        split
        ·rfl
        ·exact hbd
       have e2 : (s.ap (.box b none)).tk (vk d) = none := htd
       have emp : (a.eval x = .slice none 0 0 \/ ∃ g o, a.eval x = .slice (some ⟨g, o, none⟩) 0 0) -> len = 0 -> o.wp P a w K Q := λ hxe' hl0 => by
        subst hl0
        refine onEmpty hxe' (by simpa using hbd') _ hdr hni e1 e2 λ a' w' hS => hK a' w' ?_
        simpa [AS.aps] using hS
       generalize hq : a.eval x = xv at hx emp
       cases hx with
       | vsn => exact emp (.inl rfl) rfl
       | vse => exact emp (.inr ⟨_, _, rfl⟩) rfl
       | @vs _ _ _ g _ _ cap _ hg hlc hcap =>
        obtain ⟨sp, p1, p2, p3⟩ := hcap
        rw [Nat.zero_add] at p3
        rcases h.box b cs hcs with ⟨-, e⟩ | ⟨g', hg', hh0, r5, -⟩
        ·rw [hg] at e; cases e
        rw [hg] at hg'
        cases hg'
        obtain ⟨ccs, ty, r1, r2, r3, r4⟩ := hh0.row (n := sp.hi) (by rw [<- p2]; exact h.cap _ _ p1)
        have hbase : B.w0.heap.size <= g := h.fresh b g hnb hg
        obtain ⟨ccs0, ty0, w1, w2⟩ := h.cap _ _ p1
        rw [p2] at w1
        obtain ⟨rfl, rfl⟩ := r1.uniq w1
        have hnob : ∀ b', (s.ap (.box b none)).bx b' ≠ none -> ρ b' ≠ some g := λ b' hb' e => by
         rw [AS.bx_set] at hb'
         by_cases eb : b' = b
         ·rw [if_pos eb] at hb'; exact hb' rfl
         ·rw [if_neg eb] at hb'; exact eb (h.inj b' b g hb' (j9 hcs) e hg)
        have hnot : ∀ t' sp', (s.ap (.box b none)).tk t' = some true -> σ t' = some sp' -> sp'.g ≠ g := λ t' sp' h1 h2 e => (h.tok t' sp' h1 h2).2.2.2 b (j9 hcs) (e ▸ hg)
        have htl : (cs.take (len * i.size)).length = len * i.size := by simp; omega
        have hcl : (ccs.toList.take (len * i.size)).length = len * i.size := by simp; omega
        have h0i : (0 * i.size : Nat) = 0 := Nat.zero_mul _
        -- in the room that is there
        have inroom : ∀ (vs : List Value) (as1 : List AV), vs.length = as1.length -> (∀ j (h : j < vs.length), (vs[j]).oneCell' = true) -> (∀ j (h : j < vs.length) (h' : j < as1.length), Rd M ρ σ vs[j] as1[j]) -> ∀ m, as1.length = m * i.size -> len + m <= cap -> Sim B (s.aps [.box b none, .box d (some (cs.take (len * i.size) ++ as1)), .tok (vk d) false, .tok (vm d) false, .env d (.vs d 0 (len + m) i.size)]) (a.put (some d) (.slice (some ⟨g, 0 * i.size, none⟩) (len + m) cap)) (w.setCells g (len * i.size) vs) := by
         intro vs as1 l1 one1 rd1 m hm hroom
         have hle : (len + m) * i.size <= cap * i.size := Nat.mul_le_mul_right _ hroom
         rw [Nat.add_mul] at hle
         have ho := hdr.orphan g ccs ty r1 r5 hbase hnob (len * i.size) vs one1 (by omega)
         obtain ⟨ccs', s1, s2, s3⟩ := jH g ty vs (len * i.size) w ccs r1 (by omega) one1
         have had := ho.adopt d hni e1 e2 g (cs.take (len * i.size) ++ as1) (.inl ⟨ccs', ty, s1, by rw [List.length_append, htl]; omega, λ j hj hj' => ?_, λ j hj hj' => ?_⟩) r5 hbase hnob hnot
         ·have hcp := had.setcap (vk d) (by exact e2) sp (by rw [p2]; exact ⟨ccs', ty, s1, by omega⟩)
          refine ⟨M, _, _, (hcp.tokdead (vm d)).put (v := .vs d 0 (len + m) i.size) ?_ d⟩
          exact .vs (by simp [zam]) hroom ⟨sp, by simp [jd], p2, by rw [Nat.zero_add]; exact p3⟩
         ·have q := s3 j
          rw [Array.getElem?_eq_getElem hj] at q
          rw [List.length_append, htl] at hj'
          split at q
          ·rw [List.getElem?_eq_getElem (by omega)] at q
           rw [Option.some.inj q]; exact one1 _ _
          ·rw [Array.getElem?_eq_getElem (by omega)] at q
           rw [Option.some.inj q]; exact r3 _ _ (by omega)
         ·have q := s3 j
          rw [Array.getElem?_eq_getElem hj] at q
          have hj2 := hj'
          rw [List.length_append, htl] at hj2
          split at q
          ·rename_i hin
           rw [List.getElem?_eq_getElem (by omega)] at q
           rw [Option.some.inj q, List.getElem_append_right (by omega)]
           simp only [htl]
           exact rd1 _ _ _
          ·rename_i hin
           rw [Array.getElem?_eq_getElem (by omega)] at q
           rw [Option.some.inj q, List.getElem_append_left (by omega)]
           simp only [List.getElem_take]
           exact r4 _ _ _
        have stay : yn = 0 -> as2 = [] -> (Builtin.append_ #[t, t] o.type #[.slice (some ⟨g, 0 * i.size, none⟩) len cap, a.eval y]).run P w = .ok (.slice (some ⟨g, 0 * i.size, none⟩) len cap) w -> o.wp P a w K Q := λ hl2 hys hr => by
         refine Zc (run _ _ (by rw [hq]; exact hr)) (hK _ _ ?_)
         have := inroom [] [] rfl (λ j hj => by cases hj) (λ j hj => by cases hj) 0 (by simp) (by omega)
         rw [hd, hl2, hys]
         simpa [World.setCells] using this
        rcases hsrc with ⟨g2, off2, len2, cap2, cf2, hye', hs2, hlen⟩ | ⟨⟨av, hye'⟩, rfl, rfl⟩
        ·have f1 := hs2.len
         have f2 := hs2.rd
         have hc2 : ∀ j v, (zH len2 i.size cf2)[j]? = some v -> w.cell? ((⟨g2, off2, none⟩ : Addr).add j) = some v := by rw [<- hlen]; exact hs2.cells
         by_cases hroom : len + len2 <= cap
         ·have hle : (len + len2) * i.size <= cap * i.size := Nat.mul_le_mul_right _ hroom
          rw [Nat.add_mul] at hle
          have hr := run_append_room_cells (P := P) w t o.type e i hu hi g (0 * i.size) len cap ⟨g2, off2, none⟩ len2 cap2 (zH len2 i.size cf2) (zi _ _ _) hc2 (zac hs2.ho) hroom
           (λ j hj => by rw [zi] at hj; rw [zY r1, Array.getElem?_eq_getElem (by omega)]; rfl) (λ j hj => r1.frz (by rw [zi] at hj; omega))
          refine Zc (run _ _ (by rw [hq, hye']; exact hr)) (hK _ _ ?_)
          rw [hd]
          have := inroom (zH len2 i.size cf2) as2 (by rw [zi, f1, hlen]) (λ j hj => zac hs2.ho _ (List.getElem_mem _)) (λ j hj hj' => by
           have q := f2 j hj'
           have hj2 := hj
           rw [zi] at hj2
           have e3 := jy (cf := cf2) hj2
           rw [List.getElem?_eq_getElem hj] at e3
           rw [Option.some.inj e3]
           exact q) len2 (by rw [f1, hlen]) hroom
          rw [hlen]
          rw [h0i, Nat.zero_add] at *
          exact this
         ·have hnm : len + len2 <= 140737488351232 := by
           have : (len + yn) * 1 <= (len + yn) * i.bytes := Nat.mul_le_mul_left _ c3
           unfold zd at hbd'
           omega
          have hb2 : (len + len2) * i.bytes <= 140737488355328 := by rw [hlen] at hbd'; unfold zd at hbd'; omega
          have hr := run_append_grow (P := P) w t o.type e i zv hu hi hzv ⟨g, 0 * i.size, none⟩ len cap (ccs.toList.take (len * i.size)) hcl (λ j v hv => by
           rw [Addr.add_mid, h0i, Nat.zero_add, zY r1]
           rw [List.getElem?_take] at hv
           split at hv
           ·simpa using hv
           ·cases hv) ⟨g2, off2, none⟩ len2 cap2 (zH len2 i.size cf2) (zi _ _ _) hc2 (by omega) (by omega) (growslice_fits (by omega) hb2)
          refine Zc (run _ _ (by rw [hq, hye']; exact hr)) (hK _ _ ?_)
          rw [hd]
          have := grow _ w.drew hdr.drew hni e1 e2 (ccs.toList.take (len * i.size)) (cs.take (len * i.size)) len hcl htl (λ j hj => by
           simp only [List.getElem_take, Array.getElem_toList]; rw [hcl] at hj; exact r3 _ _ (by omega)) (λ j hj hj' => by
           simp only [List.getElem_take, Array.getElem_toList]; exact r4 _ _ _) g2 off2 cf2 hs2 (grownCap w (len + len2) cap e) (by rw [hlen]; exact grownCap_ge w (len + len2) cap e)
          rw [hlen] at this |-
          exact this
        ·exact stay rfl rfl (by
          rw [hye']
          cases av <;> simp [Builtin.append_, ze hu, zk hi, Builtin.lenOf, Builtin.firstCells, hlc, storeCells, loadCells, loadCellsFrom])
      ·cases hs
     ·cases hs
    ·cases hs
   ·cases hs
  ·cases hs
 ·cases hs
theorem zjZ (h : SimW B M ρ σ s a w) {o : Oper} {d : Nat} {t e : TypeId} {i : TypeInfo} {zv : Value} {x y : Operand} (run : ∀ c w', (Builtin.append_ #[t, t] o.type #[a.eval x, a.eval y]).run P w = .ok c w' -> (execOp a.eval o).run P w = .ok (.value c) w') (hd : o.dst = some d) (hu : P.underlying t = some (.slice e)) (hi : P.info? e = some i) (hzv : i.zero = some zv) (zsz : zv.cells.size = i.size) (hzo : ∀ i (q : i < zv.cells.size), (zv.cells[i]).oneCell' = true) (c2 : 0 < i.size) (c3 : 0 < i.bytes) {ys : List (List AV)}
  (hsrc : (∃ g2 off2 len2 cap2 cf2, a.eval y = .slice (some ⟨g2, off2, none⟩) len2 cap2 /\ SrcL M w i.size g2 off2 ys cf2 /\ ys.length = len2) \/ ((∃ av, a.eval y = .slice av 0 0) /\ ys = [])) {W : List Wr} (hs : jG s d (i.size, i.bytes) (s.ev x) ys = some W) (K : Act -> World -> Prop) (Q : Exit -> Act -> World -> Prop) (hK : ∀ a' w', Sim B (s.aps W) a' w' -> K a' w') : o.wp P a w K Q := by
 refine zcj h run hd hu hi hzv zsz hzo c2 c3 (hsrc.imp (λ ⟨g2, off2, len2, cap2, cf2, e1, hs2, e2⟩ => ?_) λ ⟨hav, e⟩ => ⟨hav, by rw [e]; rfl, by rw [e]; rfl⟩) hs K Q hK
 obtain ⟨f1, f2⟩ := SrcL.flat (sz := i.size) (g := g2) (off := off2) (xs := ys) (cf := cf2) ys cf2 hs2.hn hs2.hr
 exact ⟨g2, off2, len2, cap2, cf2, e1, ⟨hs2.cells c2 h.mem, hs2.ho, f1, λ q hq => (f2 q hq).of0⟩, e2⟩
theorem zm7 (hT : TabOk P T) (h : SimW B M ρ σ s a w) {o : Oper} {d : Nat} {t : TypeId} {x y : Operand} (ho : o.op = .call { callee := .builtin .append, args := #[x, y], argTypes := #[t, t] }) (hd : o.dst = some d) {W : List Wr} (hs : ZY T s d t x y = some W) (K : Act -> World -> Prop) (Q : Exit -> Act -> World -> Prop) (hK : ∀ a' w', Sim B (s.aps W) a' w' -> K a' w') : o.wp P a w K Q := by
 unfold ZY at hs
 have hx := h.ev x
 have hy := h.ev y
 have run : ∀ c w', (Builtin.append_ #[t, t] o.type #[a.eval x, a.eval y]).run P w = .ok c w' -> (execOp a.eval o).run P w = .ok (.value c) w' := λ c w' hc => by
  unfold execOp
  simp only [ho, resolve, Sem.run_bind, Sem.run_pure, Result.andThen_ok, invoke, builtin]
  simp [hc]
 split at hs
 ·rename_i e hu
  replace hu := hT.u _ _ hu
  split at hs
  ·rename_i p z hi hz htk
   obtain ⟨i, hi, hp1, hp2⟩ := hT.i _ _ hi
   rw [<- hp1, <- hp2] at hs
   split at hs
   ·rename_i hc
    obtain ⟨c1, c2, c3⟩ := hc
    obtain ⟨zv, z1, z2, i', hi', hzv⟩ := Zb hT hz
    have hzo : ∀ i (q : i < zv.cells.size), (zv.cells[i]).oneCell' = true := λ i q => (z2 M ρ σ).2.1 i q
    rw [hi] at hi'
    cases hi'
    have zsz : zv.cells.size = i.size := by rw [(z2 M ρ σ).1]; exact c1
    split at hs
    ·rename_i m ys ty hye
     rw [hye] at hy
     split at hs
     ·rename_i hm
      subst hm
      -- the source, as1 a row
      have hsrc : (∃ g2 off2 len2 cap2 cf2, a.eval y = .slice (some ⟨g2, off2, none⟩) len2 cap2 /\ SrcL M w i.size g2 off2 ys cf2 /\ ys.length = len2) \/ ((∃ av, a.eval y = .slice av 0 0) /\ ys = []) := by
       generalize hq : a.eval y = yv at hy
       cases hy with
       | nil => exact .inr ⟨⟨_, rfl⟩, rfl⟩
       | list cf e1 e2 e3 e4 e5 e6 e7 => exact .inl ⟨_, _, _, _, cf, rfl, ⟨e3, e4, e5, e6⟩, e1⟩
      have hzc : ∀ n : Nat, (Builtin.zeroCells zv.cells n).size = n * i.size := λ n => by rw [size_zeroCells, zsz]
      -- onto nothing
      have onNil : a.eval x = .slice none 0 0 -> ys.length * i.bytes <= zd -> ∀ s' : AS, SimW B M ρ σ s' a w -> s'.tk (tD d 0) = none -> (∀ a' w', Sim B ((s'.ap (.tok (tD d 0) true)).ap (.env d (.list i.size ys (some (tD d 0))))) a' w' -> K a' w') -> o.wp P a w K Q := by
       intro hxe hbd s' h' htk' hK'
       rcases hsrc with ⟨g2, off2, len2, cap2, cf2, hye', hs2, hlen⟩ | ⟨⟨av, hye'⟩, hys⟩
       ·by_cases h0 : len2 = 0
        ·have hys : ys = [] := List.length_eq_zero_iff.1 (by omega)
         refine Zc (v := .slice none 0 0) (w' := w) (run _ _ ?_) (hK' _ _ ?_)
         ·rw [hxe, hye', h0]
          simp [Builtin.append_, ze hu, zk hi, Builtin.lenOf, Builtin.firstCells, loadCells, loadCellsFrom]
         ·rw [hd, hys]
          exact ⟨M, ρ, σ, (h'.tokfree (tD d 0) htk').put .nil d⟩
        ·have h48 : len2 * i.bytes <= 281474976710656 := by rw [hlen] at hbd; unfold zd at hbd; omega
         have h63 : (len2 : Int) <= 9223372036854775807 := by
          have : len2 * 1 <= len2 * i.bytes := Nat.mul_le_mul_left _ c3
          omega
         have hr := run_append_nil (P := P) w t o.type e i zv hu hi hzv ⟨g2, off2, none⟩ len2 cap2 (zH len2 i.size cf2) (zi _ _ _) (by rw [<- hlen]; exact hs2.cells c2 h.mem) (by omega) h63 h48
         refine Zc (run _ _ (by rw [hxe, hye']; exact hr)) (hK' _ _ ?_)
         rw [hd]
         have ag := zck h' d (tD d 0) htk' (e := e) c2 (SrcL.nil (M := M) (w := w) (sz := i.size) (g := 0) (off := 0) (cf := λ _ _ => .bool true) (λ _ _ => rfl)) hs2 (grownCap w len2 0 e) (by simpa [hlen] using grownCap_ge w len2 0 e) (Builtin.zeroCells zv.cells (grownCap w len2 0 e - len2)) (by rw [hzc]; simp [hlen]) (zoA hzo _)
         obtain ⟨M', ρ', σ', q⟩ := ag
         refine ⟨M', ρ', σ', ?_⟩
         simpa [zH, hlen] using q
       ·refine Zc (v := .slice none 0 0) (w' := w) (run _ _ ?_) (hK' _ _ ?_)
        ·rw [hxe, hye']
         cases av <;> simp [Builtin.append_, ze hu, zk hi, Builtin.lenOf, Builtin.firstCells, loadCells, loadCellsFrom]
        ·rw [hd, hys]
         exact ⟨M, ρ, σ, (h'.tokfree (tD d 0) htk').put .nil d⟩
      cases hbm : T.bm d with
      | true =>
       rw [hbm] at hs
       simp only [cond_true] at hs
       exact zjZ h run hd hu hi hzv zsz hzo c2 c3 hsrc (by rw [show (i.size, i.bytes) = p from Prod.ext hp1 hp2]; exact hs) K Q hK
      | false =>
      rw [hbm] at hs
      simp only [cond_false] at hs
      split at hs
      ·rename_i hxe
       rw [hxe] at hx
       split at hs
       ·rename_i hbd
        cases hs
        exact onNil hx.v_inv hbd s h htk hK
       ·cases hs
      ·rename_i n xs k hxe
       rw [hxe] at hx
       split at hs
       ·rename_i hn
        subst hn
        split at hs
        ·rename_i hk
         split at hs
         ·rename_i hbd
          cases hs
          have htk' : (s.ap (.tok k false)).tk (tD d 0) = none := by
           rw [AS.tk_set]
           split
           ·rename_i e; rw [e, hk] at htk; cases htk
           ·exact htk
          generalize hq : a.eval x = xv at hx
          cases hx with
          | nil ha =>
           refine onNil (by rw [hq, ha.resolve_right (by simp)]) (by simpa using hbd) _ (h.tokdead k) htk' λ a' w' hS => hK a' w' ?_
           simpa [AS.aps] using hS
          | @list _ _ g off len cap _ _ _ cf e1 e2 e3 e4 e5 e6 e7 =>
           have hs1 : SrcL M w i.size g off xs cf := ⟨e3, e4, e5, e6⟩
           have hnm : ∀ len2, ys.length = len2 -> len + len2 <= 140737488351232 := λ len2 hl => by
            have : (xs.length + ys.length) * 1 <= (xs.length + ys.length) * i.bytes := Nat.mul_le_mul_left _ c3
            unfold zd at hbd
            omega
           rcases hsrc with ⟨g2, off2, len2, cap2, cf2, hye', hs2, hlen⟩ | ⟨⟨av, hye'⟩, hys⟩
           ·by_cases hroom : len + len2 <= cap
            ·obtain ⟨q1, M', ρ', σ', q2⟩ := zfY h d (tD d 0) k htk hk c2 hs1 hs2 cap (by omega) (by rw [e1]; exact e7)
             have hr := run_append_room_cells (P := P) w t o.type e i hu hi g off len cap ⟨g2, off2, none⟩ len2 cap2 (zH len2 i.size cf2) (zi _ _ _) (by rw [<- hlen]; exact hs2.cells c2 h.mem) (zac hs2.ho) hroom
              (λ j hj => by rw [zi] at hj; rw [<- e1]; exact (q1 j (by rw [hlen]; exact hj)).1) (λ j hj => by rw [zi] at hj; rw [<- e1]; exact (q1 j (by rw [hlen]; exact hj)).2)
             refine Zc (run _ _ (by rw [hq, hye']; exact hr)) (hK _ _ ?_)
             rw [hd]
             rw [e1, hlen] at q2
             exact ⟨M', ρ', σ', q2⟩
            ·have hb2 : (len + len2) * i.bytes <= 140737488355328 := by rw [e1, hlen] at hbd; unfold zd at hbd; omega
             have hr := run_append_grow (P := P) w t o.type e i zv hu hi hzv ⟨g, off, none⟩ len cap (zH len i.size cf) (zi _ _ _) (by rw [<- e1]; exact hs1.cells c2 h.mem) ⟨g2, off2, none⟩ len2 cap2 (zH len2 i.size cf2) (zi _ _ _) (by rw [<- hlen]; exact hs2.cells c2 h.mem) (by omega)
              (by have := hnm len2 hlen; omega) (growslice_fits (by omega) hb2)
             refine Zc (run _ _ (by rw [hq, hye']; exact hr)) (hK _ _ ?_)
             rw [hd]
             have ag := zck (h.tokdead k) d (tD d 0) htk' (e := e) c2 hs1 hs2 (grownCap w (len + len2) cap e) (by rw [e1, hlen]; exact grownCap_ge w (len + len2) cap e) (Builtin.zeroCells zv.cells (grownCap w (len + len2) cap e - (len + len2))) (by rw [hzc, e1, hlen]) (zoA hzo _)
             rw [e1, hlen] at ag
             exact ag
           ·subst hys
            obtain ⟨q1, M', ρ', σ', q2⟩ := zfY h d (tD d 0) k htk hk c2 hs1 (SrcL.nil (M := M) (w := w) (sz := i.size) (g := 0) (off := 0) (cf := λ _ _ => .bool true) (λ _ _ => rfl)) cap (by simpa [e1] using e2) (by rw [e1]; exact e7)
            refine Zc (v := .slice (some ⟨g, off, none⟩) len cap) (w' := w) (run _ _ ?_) (hK _ _ ?_)
            ·rw [hq, hye']
             cases av <;> simp [Builtin.append_, ze hu, zk hi, Builtin.lenOf, Builtin.firstCells, e2, storeCells, loadCells, loadCellsFrom]
            ·rw [hd]
             refine ⟨M', ρ', σ', ?_⟩
             simpa [zH, World.setCells, e1, AS.aps] using q2
         ·cases hs
        ·cases hs
       ·cases hs
      ·cases hs
     ·cases hs
    ·cases hs
   ·cases hs
  ·cases hs
 ·cases hs
theorem SimW.later (h : SimW B M ρ σ s a w) {w' : World} (old : ∀ k, k < w.heap.size -> w'.heap[k]? = w.heap[k]?) (hs : w.heap.size <= w'.heap.size) (ho : w'.os = w.os) (ht : w'.tape = w.tape) (hp : w'.output = w.output) : SimW B M ρ σ s a w' := by
 have h_rws : ∀ g n, Row B.w0 g n -> Row w' g n := λ g n hr => by
  have := h.rws g n hr
  exact this.of_heap (old _ this.lt)
 refine { h with defers := h.defers.keep λ D _ hd => (old D (Z0 hd)).trans hd, mem := λ g o c hm => ?_, os := ho.trans h.os, tape := ht.trans h.tape, output := hp.trans h.output, size := Nat.le_trans h.size hs, block := λ k h1 h2 h3 => ?_, box := λ b cs' hb => ?_, rws := h_rws, rlt := λ b g hr => Nat.lt_of_lt_of_le (h.rlt b g hr) hs, cap := λ t sp hs' => ?_ }
 ·rw [zR (old g (zaP (h.mem g o c hm)))]; exact h.mem g o c hm
 ·rw [old k (Nat.lt_of_lt_of_le h1 h.size)]; exact h.block k h1 h2 h3
 ·rcases h.box b cs' hb with e | ⟨g, q1, q2, q3, q4⟩
  ·exact .inl e
  ·exact .inr ⟨g, q1, q2.of_heap (old g q2.lt) λ _ _ h => h, q3, q4⟩
 ·have := h.cap t sp hs'
  exact this.of_heap (old _ this.lt)
def za9 (b : ByteArray) : List (List AV) := b.data.toList.map λ x => [.v (.int .u8 x.toNat)]
def zcw (T : Tab) (s : AS) (d : Nat) (src dst : TypeId) (x : Operand) : Option (List Wr) :=
 match T.u src, T.u dst, s.ev x with
 | some .string, some (.slice e), .v (.string b) =>
  (match T.u e with
  | some (.int .u8) => (match s.tk (tD d 0) with | none => some [.tok (tD d 0) true, .env d (.list 1 (za9 b) (some (tD d 0)))] | _ => none)
  | _ => none)
 | _, _, _ => none
theorem zpr (hT : TabOk P T) (h : SimW B M ρ σ s a w) {o : Oper} {d : Nat} {src dst : TypeId} {x : Operand} (ho : o.op = .convert src dst x) (hd : o.dst = some d) {W : List Wr} (hs : zcw T s d src dst x = some W) (K : Act -> World -> Prop) (Q : Exit -> Act -> World -> Prop) (hK : ∀ a' w', Sim B (s.aps W) a' w' -> K a' w') : o.wp P a w K Q := by
 unfold zcw at hs
 have hx := h.ev x
 split at hs
 ·rename_i e b hu hv hxe
  rw [hxe] at hx
  split at hs
  ·rename_i he
   split at hs
   ·rename_i htk
    cases hs
    have hu := hT.u _ _ hu
    have hv := hT.u _ _ hv
    have he := hT.u _ _ he
    have hcs : (Lib.bytesCells w e b).size = grownCap w b.size 0 e := by
     have := grownCap_ge w b.size 0 e
     simp [Lib.bytesCells]
     omega
    have hge := grownCap_ge w b.size 0 e
    refine Zc (v := .slice (some ⟨w.heap.size, 0, none⟩) b.size (grownCap w b.size 0 e)) (w' := Lib.bytesWorld w e b) ?_ (hK _ _ ?_)
    ·have := Lib.run_convert_string_bytes (P := P) w src dst e b hu hv he
     unfold execOp
     simp only [ho, hx.v_inv, this, Sem.run_bind, Result.andThen_ok, Sem.run_pure]
    ·rw [hd]
     have hl := h.later (w' := Lib.bytesWorld w e b) (λ k hk => Lib.bytesWorld_at_old w e b k hk) (by rw [Lib.bytesWorld_size]; omega) (by simp [Lib.bytesWorld, World.freeze, World.alloc, World.drew, -World.alloc_eq, -World.drew_eq]) (by simp [Lib.bytesWorld, World.freeze, World.alloc, World.drew, -World.alloc_eq, -World.drew_eq]) (by simp [Lib.bytesWorld, World.freeze, World.alloc, World.drew, -World.alloc_eq, -World.drew_eq])
     have hkn := hl.know (tD d 0) htk w.heap.size (Lib.bytesCells w e b) e ⟨_, Lib.bytesWorld_at_new w e b, .inl (Nat.le_refl _), zng w e b⟩ h.size (λ o => h.free (Nat.le_refl _) o) (λ b' _ e' => Nat.lt_irrefl _ (h.rlt b' _ e')) (λ t sp _ h2 e' => by have := (h.cap t sp h2).lt; omega) b.size (Lib.bytesCells w e b).size (by omega) (Nat.le_refl _)
     refine ⟨_, ρ, _, hkn.put (v := .list 1 (za9 b) (some (tD d 0))) ?_ d⟩
     have hbl : (za9 b).length = b.size := by simp [za9]
     have hcell : ∀ i, (hi : i < b.size) -> (Lib.bytesCells w e b)[i]? = some (.int .u8 (b.data[i]'(by rw [ByteArray.size_data]; exact hi)).toNat) := λ i hi => by
      have hi' : i < b.data.size := by rw [ByteArray.size_data]; exact hi
      unfold Lib.bytesCells
      rw [Array.getElem?_append_left (by simpa using hi), Array.getElem?_map, Array.getElem?_eq_getElem hi']
      rfl
     refine .list (λ i _ => ((Lib.bytesCells w e b)[i]?).getD (.bool true)) hbl hge (λ i hi => by simp [za9]) (λ i j hi hj => ?_) (λ i j => ?_) (λ i j hi hj => ?_) (λ k hk => ?_)
     ·rw [hbl] at hi
      have hj0 : j = 0 := by omega
      subst hj0
      have hlen : ((Lib.bytesCells w e b).toList.take b.size).length = b.size := by simp; omega
      unfold za6
      rw [if_pos ⟨rfl, by omega, by rw [hlen]; omega⟩, show 0 + i * 1 + 0 - 0 = i by omega, List.getElem?_take, if_pos hi]
      simp only [Array.getElem?_toList, hcell i hi, Option.getD_some]
     ·cases hq : (Lib.bytesCells w e b)[i]? with
      | none => rfl
      | some v =>
       simp only [Option.getD_some]
       obtain ⟨q1, q2⟩ := Array.getElem?_eq_some_iff.1 hq
       rw [<- q2]
       simp only [Lib.bytesCells, Array.getElem_append]
       split <;> simp [Value.oneCell']
     ·rw [hbl] at hi
      have hj0 : j = 0 := by simpa [za9] using hj
      subst hj0
      simp only [hcell i hi, Option.getD_some]
      simp [za9]
      exact .v
     ·cases hk
      refine .inr ⟨⟨w.heap.size, b.size, (Lib.bytesCells w e b).size⟩, by simp [jd], rfl, by simp, by simp [hcs], 0, by simp⟩
   ·cases hs
  ·cases hs
 ·cases hs
theorem Rd.retok {c : Value} {m t t' : Nat} {xs : List (List AV)} (h : Rd M ρ σ c (.list m xs (some t))) (e : σ t' = σ t) : Rd M ρ σ c (.list m xs (some t')) := by
 cases h with
 | nil ha => exact .nil (.inl (ha.resolve_right (by simp)))
 | list cf hl hcap hn hm ho hr ht =>
  refine .list cf hl hcap hn hm ho hr (λ q hq => ?_)
  cases hq
  rw [e]
  exact ht _ rfl
theorem SimW.recell (h : SimW B M ρ σ s a w) {d m t t' : Nat} {cs : List AV} {xs : List (List AV)} (hb : s.bx d = some (cs ++ [.list m xs (some t)])) (e : σ t' = σ t) : SimW B M ρ σ (s.ap (.box d (some (cs ++ [.list m xs (some t')])))) a w := by
 refine h.rebox hb _ ?_
 rcases h.box d _ hb with ⟨q, -⟩ | ⟨g, q1, q2, -, -⟩
 ·simp at q
 ·refine .inr ⟨g, q1, ?_⟩
  rcases q2 with ⟨ccs, ty, z1, z2, z3, z4⟩ | ⟨-, md, ms, z, -⟩
  ·refine .inl ⟨ccs, ty, z1, by simpa using z2, λ i hi hi' => z3 i hi (by simpa using hi'), λ i hi hi' => ?_⟩
   have hi2 : i < (cs ++ [AV.list m xs (some t)]).length := by simpa using hi'
   have r := z4 i hi hi2
   by_cases hc : i < cs.length
   ·rw [List.getElem_append_left hc] at r |-; exact r
   ·have hic : i = cs.length := by simp at hi2; omega
    subst hic
    rw [List.getElem_append_right (Nat.le_refl _)] at r |-
    simp only [Nat.sub_self, List.getElem_cons_zero] at r |-
    exact r.retok e
  ·exfalso
   cases cs with
   | nil => simp at z
   | cons y ys => have := congrArg List.length z; simp at this
def zbh (T : Tab) (s : AS) (d : Nat) (y : AV) : Option (Nat × List (List AV) × Nat) :=
 match y with
 | .vs e off len n =>
  bif Nat.beq off 0 && (Nat.beq len 1 && (Nat.beq n 1 && JB s.tok)) then
   (match s.cx e with
   | some cs => (match cs with
    | [c] => (match c with
     | .list m xs (some t2) => (match s.tk t2 with
      | some b => (match b with | true => bif Nat.ble TOB t2 then none else some (m, xs, t2) | false => none)
      | none => none)
     | _ => none)
    | _ => none)
   | none => none)
  else none
 | _ => none
def zaR (s : AS) (x : AV) : Option (Nat × Nat × List AV) :=
 match x with
 | .v z => (match z, s.fm with | .slice none 0 0, none => some (0, 0, []) | _, _ => none)
 | .vs b off len n => (match s.fm, s.bx b with
  | some (b', j, N), some cs => bif Nat.beq b' b then (if N = len /\ j <= N then some (j, N, cs.take (len * n)) else none) else none
  | _, _ => none)
 | _ => none
def j8 (T : Tab) (s : AS) (d : Nat) (t : TypeId) (x y : Operand) : Option (List Wr) :=
 match T.u t with
 | some (.slice e) =>
  (match T.i e, T.z e with
  | some i, some z =>
   if z.length = i.1 /\ i.1 = 1 /\ 0 < i.2 then
    (match zbh T s d (s.ev y), zaR s (s.ev x) with
    | some p, some q => bif Nat.beq p.2.2 (vm d) || Nat.ble TOB (vm d) then none else (match zX s d i (s.ev x) 1 [.list p.1 p.2.1 (some p.2.2)] with
     | some W => some (W ++ [.tok p.2.2 false, .fm (some (d, q.1, q.2.1 + 1)), .box d (some (q.2.2 ++ [.list p.1 p.2.1 (some (TOB + q.2.1))]))])
     | none => none)
    | _, _ => none)
   else none
  | _, _ => none)
 | _ => none
theorem zeH {d : Nat} {i : Nat × Nat} {x : AV} {l2 : Nat} {as2 : List AV} {W : List Wr} (hs : zX s d i x l2 as2 = some W) {q : Nat × Nat × List AV} (hq : zaR s x = some q) : s.tk (vk d) = none /\ (s.fm = none /\ q.2.1 = 0 /\ q.1 = 0 \/ ∃ b, s.fm = some (b, q.1, q.2.1) /\ q.1 <= q.2.1) /\ ∃ pre v, W = pre ++ [.box d (some (q.2.2 ++ as2)), .tok (vk d) false, .tok (vm d) false, .env d v] /\ (pre = [] \/ ∃ b, pre = [.box b none]) := by
 unfold zX at hs
 split at hs
 ·rename_i hbd htd
  refine ⟨htd, ?_⟩
  split at hs
  ·split at hs
   ·rename_i z
    split at hs
    ·split at hs
     ·cases hs
      unfold zaR at hq
      simp only at hq
      split at hq
      ·rename_i h1 h2
       cases hq
       exact ⟨.inl ⟨h2, rfl, rfl⟩, [], _, rfl, .inl rfl⟩
      ·cases hq
     ·cases hs
    ·cases hs
   ·rename_i b off len n
    split at hs
    ·rename_i hc
     obtain ⟨rfl, rfl, -, -⟩ := hc
     split at hs
     ·rename_i cs mk hcs hmk
      split at hs
      ·cases hs
       unfold zaR at hq
       simp only at hq
       split at hq
       ·rename_i b' j N cs' h1 h2
        rw [hcs] at h2
        cases h2
        cases hb : Nat.beq b' b with
        | false => rw [hb] at hq; cases hq
        | true =>
         rw [hb] at hq
         simp only [cond_true] at hq
         split at hq
         ·rename_i h3
          cases hq
          exact ⟨.inr ⟨b', h1, h3.2⟩, [.box b none], _, rfl, .inr ⟨b, rfl⟩⟩
         ·cases hq
       ·cases hq
      ·cases hs
     ·cases hs
    ·cases hs
   ·cases hs
  ·cases hs
 ·cases hs
theorem zj0 (hT : TabOk P T) (h : SimW B M ρ σ s a w) {o : Oper} {d : Nat} {t : TypeId} {x y : Operand} (ho : o.op = .call { callee := .builtin .append, args := #[x, y], argTypes := #[t, t] }) (hd : o.dst = some d) {W : List Wr} (hs : j8 T s d t x y = some W) (K : Act -> World -> Prop) (Q : Exit -> Act -> World -> Prop) (hK : ∀ a' w', Sim B (s.aps W) a' w' -> K a' w') : o.wp P a w K Q := by
 have hy := h.ev y
 have run : ∀ c w', (Builtin.append_ #[t, t] o.type #[a.eval x, a.eval y]).run P w = .ok c w' -> (execOp a.eval o).run P w = .ok (.value c) w' := λ c w' hc => by
  unfold execOp
  simp only [ho, resolve, Sem.run_bind, Sem.run_pure, Result.andThen_ok, invoke, builtin]
  simp [hc]
 unfold j8 at hs
 split at hs
 ·rename_i e hu
  replace hu := hT.u _ _ hu
  split at hs
  ·rename_i p z hi hz
   obtain ⟨i, hi, hp1, hp2⟩ := hT.i _ _ hi
   rw [<- hp1, <- hp2] at hs
   split at hs
   ·rename_i hc
    obtain ⟨c1, c2, c3⟩ := hc
    obtain ⟨zv, z1, z2, i', hi', hzv⟩ := Zb hT hz
    have hzo : ∀ i (q : i < zv.cells.size), (zv.cells[i]).oneCell' = true := λ i q => (z2 M ρ σ).2.1 i q
    rw [hi] at hi'
    cases hi'
    have zsz : zv.cells.size = i.size := by rw [(z2 M ρ σ).1]; exact c1
    split at hs
    ·rename_i fa fo hfa hfo
     cases hbb : (Nat.beq fa.2.2 (vm d) || Nat.ble TOB (vm d)) with
     | true => rw [hbb] at hs; cases hs
     | false =>
     rw [hbb] at hs
     simp only [cond_false] at hs
     obtain ⟨b1, b2⟩ := Bool.or_eq_false_iff.1 hbb
     split at hs
     ·rename_i W0 hW0
      cases hs
      -- what is appended
      unfold zbh at hfa
      split at hfa
      ·rename_i eb off len n hye
       rw [hye] at hy
       cases hbc : (Nat.beq off 0 && (Nat.beq len 1 && (Nat.beq n 1 && JB s.tok))) with
       | false => rw [hbc] at hfa; cases hfa
       | true =>
       rw [hbc] at hfa
       simp only [cond_true] at hfa
       simp only [Bool.and_eq_true] at hbc
       obtain ⟨g1, g2, g3, hno⟩ := hbc
       obtain rfl := Nat.eq_of_beq_eq_true g1
       obtain rfl := Nat.eq_of_beq_eq_true g2
       obtain rfl := Nat.eq_of_beq_eq_true g3
       split at hfa
       ·rename_i cs hcs
        obtain ⟨hcs, hnm⟩ := AS.cx_some hcs
        split at hfa
        ·rename_i c
         split at hfa
         ·rename_i m xs t2
          split at hfa
          ·rename_i bt htk2
           split at hfa
           ·cases hlo : Nat.ble TOB t2 with
            | true => rw [hlo] at hfa; cases hfa
            | false =>
            rw [hlo] at hfa
            simp only [cond_false] at hfa
            cases hfa
            have ht2 : t2 < TOB := by
             by_cases q : TOB <= t2
             ·rw [Nat.ble_eq_true_of_le q] at hlo; cases hlo
             ·omega
            have hvm : vm d < TOB := by
             by_cases q : TOB <= vm d
             ·rw [Nat.ble_eq_true_of_le q] at b2; cases b2
             ·omega
            have ht2v : t2 ≠ vm d := λ e => by rw [e] at b1; simp at b1
            obtain ⟨htd, hfm, pre, v, hW, hpre⟩ := zeH hW0 hfo
            have ht2k : t2 ≠ vk d := λ e => by rw [e, htd] at htk2; cases htk2
            have hsrc : ∃ g2 off2 len2 cap2 cf2, a.eval y = .slice (some ⟨g2, off2, none⟩) len2 cap2 /\ SrcF M ρ σ w i.size g2 off2 1 [.list m xs (some t2)] cf2 /\ 1 = len2 := by
             generalize hq : a.eval y = yv at hy
             cases hy with
             | @vs _ _ _ g _ _ cap _ hg hlc hcap =>
              rcases h.box eb _ hcs with ⟨q, -⟩ | ⟨g', hg', hh, -, -⟩
              ·cases q
              rw [hg] at hg'
              cases hg'
              obtain ⟨ccs, ty, r1, r2, r3, r4⟩ := hh.cells hnm
              have h0 : 0 < ccs.size := r2
              refine ⟨g, 0 * 1, 1, cap, λ _ _ => ccs[0], rfl, ⟨λ j u hj => ?_, λ _ _ => r3 0 h0 (by simp), by rw [c2]; rfl, λ q hq' => ?_⟩, rfl⟩
              ·have hj1 := (List.getElem?_eq_some_iff.1 hj).1
               rw [zi, c2] at hj1
               have : j = 0 := by omega
               subst this
               rw [jy (by rw [c2]; omega)] at hj
               cases hj
               rw [Addr.add_mid]
               rw [zY r1]
               simp
              ·have : q = 0 := by simp at hq'; exact hq'
               subst this
               exact r4 0 h0 (by simp)
            refine zcj h run hd hu hi hzv zsz hzo (by omega) c3 (.inl hsrc) (by rw [show (i.size, i.bytes) = p from by rw [hp1, hp2]]; exact hW0) K Q (λ a' w' hS => hK a' w' ?_)
            obtain ⟨M', ρ', σ', h1⟩ := hS
            have tok1 : (s.aps W0).tok = (vm d, false) :: (vk d, false) :: s.tok := by
             rw [hW]
             rcases hpre with rfl | ⟨b, rfl⟩ <;> rfl
            have fm1 : (s.aps W0).fm = s.fm := by
             rw [hW]
             rcases hpre with rfl | ⟨b, rfl⟩ <;> rfl
            have bx1 : (s.aps W0).bx d = some (fo.2.2 ++ [.list m xs (some t2)]) := by
             rw [hW]
             have e : ∀ s0 : AS, (((((s0.ap (.box d (some (fo.2.2 ++ [.list m xs (some t2)])))).ap (.tok (vk d) false)).ap (.tok (vm d) false)).ap (.env d v))).bx d = some (fo.2.2 ++ [.list m xs (some t2)]) := λ s0 => by
              show (s0.ap (.box d _)).bx d = _
              rw [AS.bx_set, if_pos rfl]
             rcases hpre with rfl | ⟨b, rfl⟩
             ·exact e s
             ·exact e (s.ap (.box b none))
            have tk1 : (s.aps W0).tk t2 = some true := by
             unfold AS.tk
             rw [tok1, fm1, List.lookup_cons, List.lookup_cons, show (t2 == vm d) = false by simpa using ht2v, show (t2 == vk d) = false by simpa using ht2k]
             exact htk2
            have hno1 : JB (s.aps W0).tok = true := by
             rw [tok1]
             have e1 : Nat.ble TOB (vm d) = false := b2
             have e2 : Nat.ble TOB (vk d) = false := by
              cases e : Nat.ble TOB (vk d) with
              | false => rfl
              | true =>
               have := Nat.le_of_ble_eq_true e
               unfold vm at hvm
               omega
             unfold JB at hno |-
             rw [List.all_cons, List.all_cons, e1, e2, hno]; rfl
            have hfm1 : ∃ b, (s.aps W0).fm = some (b, fo.1, fo.2.1) \/ ((s.aps W0).fm = none /\ fo.2.1 = 0) := by
             rcases hfm with ⟨q1, q2, -⟩ | ⟨b, q1, -⟩
             ·exact ⟨0, .inr ⟨fm1.trans q1, q2⟩⟩
             ·exact ⟨b, .inl (fm1.trans q1)⟩
            have hle : fo.1 <= fo.2.1 := by
             rcases hfm with ⟨-, q2, q3⟩ | ⟨b, -, q⟩
             ·omega
             ·exact q
            obtain ⟨b, hfm1⟩ := hfm1
            obtain ⟨h2, h3⟩ := h1.fmAdd t2 tk1 ht2 b d fo.1 fo.2.1 hle hfm1 hno1
            have h4 := h2.recell (d := d) (cs := fo.2.2) (m := m) (xs := xs) (t := t2) (t' := TOB + fo.2.1) bx1 (by
             have : t2 ≠ TOB + fo.2.1 := by omega
             simp only [if_pos, if_neg this])
            have e : s.aps (W0 ++ [.tok t2 false, .fm (some (d, fo.1, fo.2.1 + 1)), .box d (some (fo.2.2 ++ [.list m xs (some (TOB + fo.2.1))]))]) = (((s.aps W0).ap (.tok t2 false)).ap (.fm (some (d, fo.1, fo.2.1 + 1)))).ap (.box d (some (fo.2.2 ++ [.list m xs (some (TOB + fo.2.1))]))) := by
             simp [AS.aps, List.foldl_append]
            rw [e]
            exact ⟨M', ρ', _, h4⟩
           ·cases hfa
          ·cases hfa
         ·cases hfa
        ·cases hfa
       ·cases hfa
      ·cases hfa
     ·cases hs
    ·cases hs
   ·cases hs
  ·cases hs
 ·cases hs
end
end
section
open Go.RowKit
def zdn (z : List AV) (n : Nat) : List AV := match z with
 | [c] => List.replicate n c
 | z => (List.replicate n z).flatten
def zef (T : Tab) (s : AS) (d : Nat) (t : TypeId) (l c : Operand) : Option (List Wr) :=
 match T.u t with
 | some (.slice e) =>
  (match T.i e, T.z e, s.bx d, s.tk (vk d) with
  | some i, some z, none, none =>
   if z.length = i.1 /\ 0 < i.1 /\ 0 < i.2 /\ s.nin <= d then
    (match s.ev l, s.ev c with
    | .v (.int _ ln), .v (.int _ cp) => if 0 <= ln /\ ln <= cp /\ cp.toNat * i.2 <= zd then (bif T.bm d then (match s.tk (tD d 0) with | none => some [.box d (some (zdn z ln.toNat)), .tok (vk d) false, .tok (vm d) false, .box d none, .tok (tD d 0) true, .env d (.list i.1 (zp ((zdn z ln.toNat).take (ln.toNat * i.1)) i.1 ln.toNat) (some (tD d 0)))] | some _ => none) else some [.box d (some (zdn z ln.toNat)), .tok (vk d) false, .tok (vm d) false, .env d (.vs d 0 ln.toNat i.1)]) else none
    | _, _ => none)
   else none
  | _, _, _, _ => none)
 | _ => none
section
variable {P : Program} {T : Tab} {B : Base} {M M' : Mem} {ρ ρ' : Rho} {σ σ' : Sig} {s : AS} {a : Act} {w : World}
theorem SimW.fz (h : SimW B M ρ σ s a w) {b off L n : Nat} {cs : List AV} (hb : s.bx b = some cs) (hni : s.nin <= b) (htk : s.tk (tD b 0) = none) (hvk : s.tk (vk b) ≠ none) (hn : 0 < n) (hL : L * n <= (ZF off n cs).length) {c : Value} (hc : Rd M ρ σ c (.vs b off L n)) :
  ∃ M' σ', SimW B M' ρ σ' ((s.ap (.box b none)).ap (.tok (tD b 0) true)) a w /\ (∀ c v, Rd M ρ σ c v -> Rd M' ρ σ' c v) /\ Rd M' ρ σ' c (.list n (zp ((ZF off n cs).take (L * n)) n L) (some (tD b 0))) := by
 rw [zeX] at hL |-
 have hdr := h.drop b hvk
 cases hc with
 | vsn => exact ⟨M, σ, hdr.tokfree (tD b 0) htk, λ _ _ h => h, by simpa [zp] using Rd.nil⟩
 | vse =>
  refine ⟨M, σ, hdr.tokfree (tD b 0) htk, λ _ _ h => h, ?_⟩
  simp only [zp]
  exact .list (λ _ _ => .bool true) rfl (Nat.le_refl _) (λ i h => by cases h) (λ i j h => by cases h) (λ _ _ => rfl) (λ i j h => by cases h) (λ k _ => .inl (by simp))
 | @vs _ _ _ g _ _ cap _ hg hlc hcap =>
  obtain ⟨sp, p1, p2, p3⟩ := hcap
  rcases h.box b cs hb with ⟨-, e⟩ | ⟨g', hg', hh0, r5, -⟩
  ·rw [hg] at e; cases e
  rw [hg] at hg'
  cases hg'
  obtain ⟨ccs, ty, r1, r2, r3, r4⟩ := hh0.row (n := sp.hi) (by rw [<- p2]; exact h.cap _ _ p1)
  have hbase : B.w0.heap.size <= g := h.fresh b g hni hg
  obtain ⟨ccs0, ty0, w1, w2⟩ := h.cap _ _ p1
  rw [p2] at w1
  obtain ⟨rfl, rfl⟩ := r1.uniq w1
  have hnob : ∀ b', (s.ap (.box b none)).bx b' ≠ none -> ρ b' ≠ some g := λ b' hb' e => by
   rw [AS.bx_set] at hb'
   by_cases eb : b' = b
   ·rw [if_pos eb] at hb'; exact hb' rfl
   ·rw [if_neg eb] at hb'; exact eb (h.inj b' b g hb' (j9 hb) e hg)
  have hnot : ∀ t' sp', (s.ap (.box b none)).tk t' = some true -> σ t' = some sp' -> sp'.g ≠ g := λ t' sp' h1 h2 e => (h.tok t' sp' h1 h2).2.2.2 b (j9 hb) (e ▸ hg)
  have hle : (off + L) * n <= (off + cap) * n := Nat.mul_le_mul_right _ (by omega)
  have hol : (off + L) * n = off * n + L * n := Nat.add_mul _ _ _
  have hoc : (off + cap) * n = off * n + cap * n := Nat.add_mul _ _ _
  have hk := hdr.know (tD b 0) htk g ccs ty r1 hbase r5 hnob hnot ((off + L) * n) sp.hi (by omega) w2
  have hsd := hdr.snone htk
  have up : ∀ c v, Rd M ρ σ c v -> Rd (za6 M g 0 (ccs.toList.take ((off + L) * n))) ρ (jd σ (tD b 0) ⟨g, (off + L) * n, sp.hi⟩) c v := λ c v hr => hr.mono (Jy λ o _ _ => r5 o) _ _ (λ _ _ h => h) (zc9 hsd)
  refine ⟨_, _, hk, up, ?_⟩
  have hcl : ((cs.drop (off * n)).take (L * n)).length = L * n := by
   simp only [List.length_take, List.length_drop] at hL |-; omega
  have hL' : ∀ x, x < L * n -> off * n + x < cs.length := λ x hx => by
   simp only [List.length_drop] at hL; omega
  have hidx : ∀ i' j, i' < L -> j < n -> i' * n + j < L * n := λ i' j h1 h2 => by
   have := Nat.mul_le_mul_right n (Nat.succ_le_of_lt h1)
   rw [Nat.succ_mul] at this; omega
  refine .list (λ i' j => if i' < L /\ j < n then (ccs[off * n + (i' * n + j)]?).getD (.bool true) else .bool true) (zS _ _ _) hlc (λ i' hi' => (jx _ _ _ _ hi' hcl).1) (λ i' j h1 h2 => ?_) (λ i' j => ?_) (λ i' j h1 h2 => ?_) (λ k hk => .inr ⟨_, by cases hk; simp [jd]; rfl, rfl, by simp; omega, by simp; omega, off, rfl⟩)
  ·rw [zS] at h1
   have hx := hidx i' j h1 h2
   have hx2 := hL' _ hx
   unfold za6
   rw [if_pos ⟨rfl, by omega, by simp; omega⟩]
   rw [show off * n + i' * n + j - 0 = off * n + (i' * n + j) by omega]
   rw [if_pos ⟨h1, h2⟩, Array.getElem?_eq_getElem (by omega)]
   rw [List.getElem?_take, if_pos (by omega)]
   simp
  ·split
   ·rename_i hx
    have hx := hidx i' j hx.1 hx.2
    have hx2 := hL' _ hx
    rw [Array.getElem?_eq_getElem (by omega)]
    exact r3 _ _ (by omega)
   ·rfl
  ·obtain ⟨q1, q2⟩ := jx _ _ _ _ h1 hcl
   have h1' := h1
   rw [zS] at h1'
   have h2' : j < n := by rw [<- q1]; exact h2
   have hx := hidx i' j h1' h2'
   have hx2 := hL' _ hx
   rw [q2 j h2 (by omega), if_pos ⟨h1', h2'⟩, Array.getElem?_eq_getElem (by omega)]
   simp only [Option.getD_some, List.getElem_take, List.getElem_drop]
   exact Rd.dat0 (up _ _ (r4 _ _ _))
theorem znV (h : SimW B M ρ σ s a w) (d : Nat) (hd : s.nin <= d) (hf : s.bx d = none) (ht : s.tk (vk d) = none) (htd : s.tk (tD d 0) = none) (ccs : Array Value) (t : TypeId) (cs : List AV) (hl : cs.length <= ccs.size) (h1 : ∀ i (h : i < ccs.size), (ccs[i]).oneCell' = true) (hr : ∀ i (h : i < ccs.size) (h' : i < cs.length), Rd M ρ σ ccs[i] cs[i]) (len cap n : Nat) (hn : 0 < n) (hcs : len * n <= cs.length) (hlc : len <= cap) (hcap : cap * n = ccs.size) :
  Sim B (s.aps [.box d (some cs), .tok (vk d) false, .tok (vm d) false, .box d none, .tok (tD d 0) true, .env d (.list n (zp (cs.take (len * n)) n len) (some (tD d 0)))]) (a.put (some d) (.slice (some ⟨w.heap.size, 0, none⟩) len cap)) (w.alloc (.cells ccs t)) := by
 have h2 := h.newbox d hd hf ht ccs t cs hl h1 hr
 have h3 := h2.setcap (vk d) ht ⟨w.heap.size, 0, ccs.size⟩ ⟨ccs, t, At.new w _ _ h1, Nat.le_refl _⟩
 have h4 := h3.tokdead (vm d)
 have rv := Rd.vs (M := M) (ρ := zam ρ d w.heap.size) (σ := jd σ (vk d) ⟨w.heap.size, 0, ccs.size⟩) (b := d) (g := w.heap.size) (off := 0) (len := len) (cap := cap) (n := n) (by simp [zam]) hlc ⟨⟨w.heap.size, 0, ccs.size⟩, by simp [jd], rfl, by simpa using hcap⟩
 rw [Nat.zero_mul] at rv
 have hd1 : vk d ≠ tD d 0 := by unfold vk tD; omega
 have hd2 : vm d ≠ tD d 0 := by unfold vm vk tD; omega
 have hd3 : vm d ≠ vk d := by unfold vm; omega
 have tk3 : ∀ k, k ≠ vk d -> k ≠ vm d -> (((s.ap (.box d (some cs))).ap (.tok (vk d) false)).ap (.tok (vm d) false)).tk k = s.tk k := λ k q1 q2 => by
  rw [AS.tk_set, if_neg q2, AS.tk_set, if_neg q1]; rfl
 have bx3 : (((s.ap (.box d (some cs))).ap (.tok (vk d) false)).ap (.tok (vm d) false)).bx d = some cs := by
  show (s.ap (.box d (some cs))).bx d = some cs
  rw [AS.bx_set, if_pos rfl]
 have vk3 : (((s.ap (.box d (some cs))).ap (.tok (vk d) false)).ap (.tok (vm d) false)).tk (vk d) ≠ none := by
  rw [AS.tk_set, if_neg hd3.symm, AS.tk_set, if_pos rfl]; simp
 obtain ⟨M', σ', q1, -, q3⟩ := h4.fz bx3 hd ((tk3 _ hd1.symm hd2.symm).trans htd) vk3 hn hcs rv
 exact ⟨M', _, σ', q1.put q3 d⟩
end
def Jd (s : AS) (n len : Nat) (y : AV) : Option (Nat × List AV) :=
 match y with
 | .list m ys _ => if m = n then some (ys.length, (ys.take (Nat.min ys.length len)).flatten) else none
 | .vs b2 off2 len2 m =>
  if m = n then
   (match s.bx b2 with
   | some cs2 => if (off2 + len2) * n <= cs2.length then some (len2, (cs2.drop (off2 * n)).take (Nat.min len2 len * n)) else none
   | none => none)
  else none
 | _ => none
def zbg (T : Tab) (s : AS) (dst : Option Nat) (t : TypeId) (x y : Operand) : Option (List Wr) :=
 match s.ev x with
 | .vs b off len n =>
  (match T.u t with
  | some (.slice e) =>
  (match T.i e, Jd s n len (s.ev y) with
  | some i, some q =>
   if n = i.1 /\ 0 < i.1 then
    (match s.bx b with
    | some cs => if (off + len) * n <= cs.length then some (.box b (some (splice cs (off * n) q.2)) :: (match dst with | some d => [.env d (.v (.int .i64 (Nat.min q.1 len : Nat)))] | none => [])) else none
    | none => none)
   else none
  | _, _ => none)
  | _ => none)
 | _ => none
theorem zc0 (z : List AV) (n : Nat) : zdn z n = (List.replicate n z).flatten := by
 unfold zdn
 split
 ·rename_i c
  induction n with
  | zero => rfl
  | succ n ih => rw [List.replicate_succ, List.replicate_succ, List.flatten_cons, <- ih]; rfl
 ·rfl
theorem JV {α : Type} (z : List α) : ∀ (n : Nat), ((List.replicate n z).flatten).length = n * z.length /\ ∀ j, j < n * z.length -> ((List.replicate n z).flatten)[j]? = z[j % z.length]?
 | 0 => ⟨by simp, λ j h => by simp at h⟩
 | n + 1 => by
  obtain ⟨h1, h2⟩ := JV z n
  refine ⟨by simp, λ j hj => ?_⟩
  rw [List.replicate_succ, List.flatten_cons]
  by_cases hlt : j < z.length
  ·rw [List.getElem?_append_left hlt, Nat.mod_eq_of_lt hlt]
  ·have hj' := hj
   rw [Nat.add_mul, Nat.one_mul] at hj'
   rw [List.getElem?_append_right (by omega), h2 (j - z.length) (by omega)]
   congr 1
   exact (Nat.mod_eq_sub_mod (by omega)).symm
section
variable {P : Program} {T : Tab} {B : Base} {M : Mem} {ρ : Rho} {σ : Sig} {s : AS} {a : Act} {w : World}
theorem zuP (hT : TabOk P T) (h : SimW B M ρ σ s a w) {o : Oper} {d : Nat} {t : TypeId} {l c : Operand} (ho : o.op = .makeSlice t l c) (hd : o.dst = some d) {W : List Wr} (hs : zef T s d t l c = some W) (K : Act -> World -> Prop) (Q : Exit -> Act -> World -> Prop) (hK : ∀ a' w', Sim B (s.aps W) a' w' -> K a' w') : o.wp P a w K Q := by
 unfold zef at hs
 have hl := h.ev l
 have hc := h.ev c
 split at hs
 ·rename_i e hu
  replace hu := hT.u _ _ hu
  split at hs
  ·rename_i p z hi hz hb hv
   obtain ⟨i, hi, hp1, hp2⟩ := hT.i _ _ hi
   rw [<- hp1, <- hp2] at hs
   split at hs
   ·rename_i hcond
    obtain ⟨c1, c2, c3, c5⟩ := hcond
    split at hs
    ·rename_i k ln k' cp hle hce
     rw [hle] at hl
     rw [hce] at hc
     split at hs
     ·rename_i hbd
      obtain ⟨b1, b2, b3⟩ := hbd
      obtain ⟨zv, z1, z2, -⟩ := Zb hT hz
      obtain ⟨p1, p2, p3⟩ := z2 M ρ σ
      have zsz : zv.cells.size = i.size := by omega
      have hcp : cp.toNat * 1 <= cp.toNat * i.bytes := Nat.mul_le_mul_left _ c3
      unfold zd at b3
      have wl : IntKind.i64.wrap ln = ln := IntWalk.i64_in _ (by omega)
      have wc : IntKind.i64.wrap cp = cp := IntWalk.i64_in _ (by omega)
      obtain ⟨f1, f2⟩ := JV z ln.toNat
      have hlc : ln.toNat <= cp.toNat := by omega
      have hle : ln.toNat * i.size <= cp.toNat * i.size := Nat.mul_le_mul_right _ hlc
      have hsz : ((Array.range (cp.toNat * i.size)).map (zv.cells[· % zv.cells.size]!)).size = cp.toNat * i.size := by simp
      have hrl : (zdn z ln.toNat).length = ln.toNat * i.size := by rw [zc0, f1, c1]
      have hpw : (∀ j (hj : j < ((Array.range (cp.toNat * i.size)).map (zv.cells[· % zv.cells.size]!)).size), (((Array.range (cp.toNat * i.size)).map (zv.cells[· % zv.cells.size]!))[j]).oneCell' = true) /\ ∀ j (hj : j < ((Array.range (cp.toNat * i.size)).map (zv.cells[· % zv.cells.size]!)).size) (hj' : j < (zdn z ln.toNat).length), Rd M ρ σ ((Array.range (cp.toNat * i.size)).map (zv.cells[· % zv.cells.size]!))[j] (zdn z ln.toNat)[j] := by
       simp only [zc0]
       refine ⟨λ j hj => ?_, λ j hj hj' => ?_⟩
       ·have : j % i.size < zv.cells.size := by rw [zsz]; exact Nat.mod_lt _ c2
        simp only [Array.getElem_map, Array.getElem_range, zsz]
        rw [getElem!_pos zv.cells (j % i.size) this]; exact p2 _ _
       ·have q1 : j % i.size < zv.cells.size := by rw [zsz]; exact Nat.mod_lt _ c2
        have q2 : j % i.size < z.length := by omega
        simp only [Array.getElem_map, Array.getElem_range, zsz]
        rw [getElem!_pos zv.cells (j % i.size) q1]
        have e1 := f2 j (by rw [<- f1]; exact hj')
        rw [List.getElem?_eq_getElem hj', c1, List.getElem?_eq_getElem q2] at e1
        rw [Option.some.inj e1]
        exact p3 _ _ _
      refine Zc (v := .slice (some ⟨w.heap.size, 0, none⟩) ln.toNat cp.toNat) (w' := w.alloc (.cells ((Array.range (cp.toNat * i.size)).map (zv.cells[· % zv.cells.size]!)) e)) ?_ (hK _ _ ?_)
      ·unfold execOp
       simp only [ho, hl.v_inv, hc.v_inv, Instr.makeSlice, asInt, asIntOf, Sem.run_bind, Sem.run_pure, Result.andThen_ok, ze hu, ZZ hi, wl, wc]
       have t1 : ((decide (cp < 0) || decide ((i.bytes : Int) * cp > 2 ^ 48)) || decide (ln < 0) || decide (ln > cp)) = false := by
        have : (i.bytes : Int) * cp <= 140737488351232 := by
         have e1 : ((cp.toNat * i.bytes : Nat) : Int) = (i.bytes : Int) * cp := by
          rw [Int.natCast_mul, Int.toNat_of_nonneg (by omega), Int.mul_comm]
         omega
        simp
        omega
       simp only [t1, Bool.false_eq_true, if_false, Sem.run_bind, Sem.run_pure, Result.andThen_ok]
       have ar : ∀ n w, (askRoom n).run P w = .ok () w := λ n w => by unfold askRoom; split <;> rfl
       simp only [ar, Result.andThen_ok, zk hi, Sem.run_bind, Sem.run_pure]
       by_cases h0 : cp.toNat * i.size = 0
       ·simp only [h0, if_true, Sem.run_pure, Result.andThen_ok, newRow]
        have e0 : ∀ (f g : Nat -> Value), (Array.range 0).map f = (Array.range 0).map g := λ f g => by simp
        simp
        rw [e0]
       ·simp only [h0, if_false, z1, Sem.run_bind, Sem.run_pure, Result.andThen_ok, newRow]
        simp
      ·rw [hd]
       cases hbm : T.bm d with
       | false =>
        rw [hbm] at hs
        cases hs
        exact zcW h d c5 hb hv _ e _ (by rw [hsz, hrl]; exact hle) (λ j hj => hpw.1 j hj) hpw.2 ln.toNat cp.toNat i.size hlc hsz.symm
       | true =>
        rw [hbm] at hs
        cases htd : s.tk (tD d 0) with
        | some q => simp only [cond_true, htd] at hs; cases hs
        | none =>
         simp only [cond_true, htd] at hs
         cases hs
         exact znV h d c5 hb hv htd _ e _ (by rw [hsz, hrl]; exact hle) (λ j hj => hpw.1 j hj) hpw.2 ln.toNat cp.toNat i.size c2 (by rw [hrl]; exact Nat.le_refl _) hlc hsz.symm
     ·cases hs
    ·cases hs
   ·cases hs
  ·cases hs
 ·cases hs
theorem zj6 (h : SimW B M ρ σ s a w) {i : TypeInfo} (c3 : 0 < i.size) {len : Nat} {y : Operand} {q : Nat × List AV} (hq : Jd s i.size len (s.ev y) = some q) :
  ∃ vals : List Value, (Builtin.firstCells i.size (Nat.min q.1 len) (a.eval y)).run P w = .ok vals.toArray w /\ (Builtin.lenOf (a.eval y)).run P w = .ok q.1 w /\ vals.length = q.2.length /\ q.2.length = Nat.min q.1 len * i.size /\ (∀ j (hj : j < vals.length), (vals[j]).oneCell' = true) /\ ∀ j (hj : j < vals.length) (hj' : j < q.2.length), Rd M ρ σ vals[j] q.2[j] := by
 have hy := h.ev y
 unfold Jd at hq
 split at hq
 ·rename_i m ys tk hye
  rw [hye] at hy
  split at hq
  ·rename_i hm
   subst hm
   cases hq
   generalize a.eval y = yv at hy
   cases hy with
   | @nil _ _ _ _ av => exact ⟨[], by cases av <;> simp [Builtin.firstCells, loadCells, loadCellsFrom], by simp [Builtin.lenOf], by simp, by simp, λ j hj => by simp at hj, λ j hj => by simp at hj⟩
   | @list _ _ g2 off2 len2 cap2 _ _ _ cf e1 e2 e3 e4 e5 e6 e7 =>
    have hmin : Nat.min ys.length len <= ys.length := Nat.min_le_left _ _
    have hlen : (ys.take (Nat.min ys.length len)).length = Nat.min ys.length len := by rw [List.length_take]; exact Nat.min_eq_left hmin
    have hget : ∀ k (hk : k < (ys.take (Nat.min ys.length len)).length), (ys.take (Nat.min ys.length len))[k] = ys[k]'(by omega) := λ k hk => by simp
    obtain ⟨q1, q2⟩ := SrcL.flat (M := M) (sz := i.size) (g := g2) (off := off2) (xs := ys) (cf := cf) (ys.take (Nat.min ys.length len)) cf (λ k hk => by rw [hget k hk]; exact e3 _ _) (λ k j hk hj => by
     have := e6 k j (by omega) (by rw [<- hget k hk]; exact hj)
     simp only [hget k hk]; exact this)
    have src : SrcL M w i.size g2 off2 (ys.take (Nat.min ys.length len)) cf := ⟨λ k hk => by rw [hget k hk]; exact e3 _ _, λ k j hk hj => e4 k j (by omega) hj, e5, λ k j hk hj => by
     have := e6 k j (by omega) (by rw [<- hget k hk]; exact hj)
     simp only [hget k hk]; exact this⟩
    have hcells := src.cells c3 h.mem
    rw [hlen] at hcells q1
    refine ⟨zH (Nat.min ys.length len) i.size cf, ?_, by simp [Builtin.lenOf, e1], by rw [zi, q1], q1, λ j hj => zac e5 _ (List.getElem_mem _), λ j hj hj' => ?_⟩
    ·have := run_loadCells_list (P := P) w ⟨g2, off2, none⟩ (zH (Nat.min ys.length len) i.size cf) hcells
     rw [zi] at this
     simp [Builtin.firstCells, this]
    ·have hj2 := hj
     rw [zi] at hj2
     have e : (zH (Nat.min ys.length len) i.size cf)[j] = cf (j / i.size) (j % i.size) := by
      have := jy (n := Nat.min ys.length len) (sz := i.size) (cf := cf) hj2
      rw [List.getElem?_eq_getElem hj] at this
      exact Option.some.inj this
     rw [e]
     exact (q2 j hj').of0
  ·cases hq
 ·rename_i b2 off2 len2 m hye
  rw [hye] at hy
  split at hq
  ·rename_i hm
   subst hm
   split at hq
   ·rename_i cs2 hcs2
    split at hq
    ·rename_i hfit
     cases hq
     have hmin : Nat.min len2 len <= len2 := Nat.min_le_left _ _
     have hle : Nat.min len2 len * i.size <= len2 * i.size := Nat.mul_le_mul_right _ hmin
     rw [Nat.add_mul] at hfit
     have hl2 : ((cs2.drop (off2 * i.size)).take (Nat.min len2 len * i.size)).length = Nat.min len2 len * i.size := by
      rw [List.length_take, List.length_drop]
      exact Nat.min_eq_left (by omega)
     generalize a.eval y = yv at hy
     cases hy with
     | vsn =>
      have e0 : Nat.min 0 len = 0 := Nat.min_eq_left (Nat.zero_le _)
      refine ⟨[], by simp [Builtin.firstCells, e0], by simp [Builtin.lenOf], by rw [hl2, e0]; simp, hl2, λ j hj => by simp at hj, λ j hj => by simp at hj⟩
     | vse =>
      have e0 : Nat.min 0 len = 0 := Nat.min_eq_left (Nat.zero_le _)
      refine ⟨[], by simp [Builtin.firstCells, e0, loadCells, loadCellsFrom], by simp [Builtin.lenOf], by rw [hl2, e0]; simp, hl2, λ j hj => by simp at hj, λ j hj => by simp at hj⟩
     | @vs _ _ _ g _ _ cap _ hg hlc hcap =>
      rcases h.box b2 cs2 hcs2 with ⟨-, e⟩ | ⟨g', hg', hh0, r5, -⟩
      ·rw [hg] at e; cases e
      rw [hg] at hg'
      cases hg'
      obtain ⟨spc, pc1, pc2, -⟩ := hcap
      obtain ⟨ccs, ty, r1, r2, r3, r4⟩ := hh0.row (n := spc.hi) (by rw [<- pc2]; exact h.cap _ _ pc1)
      have hvl : ((ccs.toList.drop (off2 * i.size)).take (Nat.min len2 len * i.size)).length = Nat.min len2 len * i.size := by
       rw [List.length_take, List.length_drop, Array.length_toList]
       exact Nat.min_eq_left (by omega)
      refine ⟨(ccs.toList.drop (off2 * i.size)).take (Nat.min len2 len * i.size), ?_, by simp [Builtin.lenOf], by rw [hvl, hl2], hl2, λ j hj => ?_, λ j hj hj' => ?_⟩
      ·have := run_loadCells_list (P := P) w ⟨g, off2 * i.size, none⟩ ((ccs.toList.drop (off2 * i.size)).take (Nat.min len2 len * i.size)) (λ j v hv => by
        rw [Addr.add_mid, zY r1]
        rw [List.getElem?_take] at hv
        split at hv
        ·rw [List.getElem?_drop] at hv
         simpa using hv
        ·cases hv)
       rw [hvl] at this
       simp [Builtin.firstCells, this]
      ·rw [hvl] at hj
       simp only [List.getElem_take, List.getElem_drop, Array.getElem_toList]
       exact r3 _ _ (by omega)
      ·rw [hvl] at hj
       simp only [List.getElem_take, List.getElem_drop, Array.getElem_toList]
       exact r4 _ _ _
    ·cases hq
   ·cases hq
  ·cases hq
 ·cases hq
theorem zux (hT : TabOk P T) (h : SimW B M ρ σ s a w) {o : Oper} {t : TypeId} {x y : Operand} (ho : o.op = .call { callee := .builtin .copy, args := #[x, y], argTypes := #[t, t] }) {W : List Wr} (hs : zbg T s o.dst t x y = some W) (K : Act -> World -> Prop) (Q : Exit -> Act -> World -> Prop) (hK : ∀ a' w', Sim B (s.aps W) a' w' -> K a' w') : o.wp P a w K Q := by
 unfold zbg at hs
 have hx := h.ev x
 have run : ∀ c w', (Builtin.copy_ #[t, t] o.type #[a.eval x, a.eval y]).run P w = .ok c w' -> (execOp a.eval o).run P w = .ok (.value c) w' := λ c w' hc => by
  unfold execOp
  simp only [ho, resolve, Sem.run_bind, Sem.run_pure, Result.andThen_ok, invoke, builtin]
  simp [hc]
 split at hs
 ·rename_i b off len n hxe
  rw [hxe] at hx
  split at hs
  ·rename_i e hu
   replace hu := hT.u _ _ hu
   split at hs
   ·rename_i p q hi hsrc
    obtain ⟨i, hi, hp1, hp2⟩ := hT.i _ _ hi
    rw [<- hp1] at hs
    split at hs
    ·rename_i hc
     obtain ⟨rfl, c3⟩ := hc
     obtain ⟨vals, s1, s2, s3, s3b, s4, s5⟩ := zj6 (P := P) h c3 hsrc
     split at hs
     ·rename_i cs hcs
      split at hs
      ·rename_i hfit
       cases hs
       rw [Nat.add_mul] at hfit
       have out : ∀ w' bx, SimW B M ρ σ (s.ap bx) a w' -> Sim B (s.aps (bx :: (match o.dst with | some d => [.env d (.v (.int .i64 (Nat.min q.1 len : Nat)))] | none => []))) (a.put o.dst (.int .i64 (Nat.min q.1 len : Nat))) w' := λ w' bx hb => by
        cases hd : o.dst with
        | none => exact ⟨M, ρ, σ, hb⟩
        | some d => exact ⟨M, ρ, σ, hb.put .v d⟩
       generalize hqx : a.eval x = xv at hx
       have none' : (∃ f : Value -> Prop, True) -> ((Builtin.copy_ #[t, t] o.type #[xv, a.eval y]).run P w = .ok (.int .i64 (Nat.min q.1 len : Nat)) w) -> len = 0 -> o.wp P a w K Q := λ _ hr hl0 => by
        refine Zc (run _ _ (by rw [hqx]; exact hr)) (hK _ _ (out _ _ ?_))
        have e1 : q.2 = [] := by
         have : q.2.length = 0 := by rw [s3b, hl0]; have : Nat.min q.1 0 = 0 := Nat.min_eq_right (Nat.zero_le _); rw [this, Nat.zero_mul]
         exact List.length_eq_zero_iff.1 this
        rw [e1]
        show SimW B M ρ σ (s.ap (.box b (some cs))) a w
        exact h.samebox hcs
       cases hx with
       | vsn =>
        have e0 : Nat.min q.1 0 = 0 := Nat.min_eq_right (Nat.zero_le _)
        have e00 : min q.1 0 = 0 := e0
        have hl : (Builtin.lenOf (.slice none 0 0)).run P w = .ok 0 w := by simp [Builtin.lenOf]
        rw [e0] at s1
        refine none' ⟨λ _ => True, trivial⟩ ?_ rfl
        rw [e0]
        simp [Builtin.copy_, ze hu, hl, s2, zk hi, s1, e00]
        rfl
       | @vse _ _ _ g qo _ _ =>
        have e0 : Nat.min q.1 0 = 0 := Nat.min_eq_right (Nat.zero_le _)
        have e00 : min q.1 0 = 0 := e0
        have hl : (Builtin.lenOf (.slice (some ⟨g, qo, none⟩) 0 0)).run P w = .ok 0 w := by simp [Builtin.lenOf]
        rw [e0] at s1
        have hv : vals = [] := List.length_eq_zero_iff.1 (by rw [s3, s3b, e0, Nat.zero_mul])
        rw [hv] at s1
        refine none' ⟨λ _ => True, trivial⟩ ?_ rfl
        rw [e0]
        simp [Builtin.copy_, ze hu, hl, s2, zk hi, s1, e00, storeCells]
        rfl
       | @vs _ _ _ g _ _ cap _ hg hlc hcap =>
        rcases h.box b cs hcs with ⟨-, e⟩ | ⟨g', hg', hh0, r5, r6⟩
        ·rw [hg] at e; cases e
        rw [hg] at hg'
        cases hg'
        obtain ⟨sp, p1, p2, p3⟩ := hcap
        have hrow : Row w g sp.hi := by rw [<- p2]; exact h.cap _ _ p1
        obtain ⟨ccs, ty, r1, r2, r3, r4⟩ := hh0.row hrow
        have hvl : vals.length <= len * i.size := by
         rw [s3, s3b]; exact Nat.mul_le_mul_right _ (Nat.min_le_right _ _)
        have hst := run_storeCells_cells (P := P) g (off * i.size) vals 0 w (λ j hj => by
         rw [zY r1, Array.getElem?_eq_getElem (by omega)]; rfl) (λ j hj => r1.frz (by omega)) (λ v hv => by
         obtain ⟨j, hj, e⟩ := List.getElem_of_mem hv
         rw [<- e]; exact s4 j hj)
        simp only [Nat.add_zero] at hst
        have hstore := h.store b g cs hcs (.inr ⟨_, hrow⟩) hg (off * i.size) vals q.2 s3 (by omega) s4 s5
        refine Zc (v := .int .i64 (Nat.min q.1 len : Nat)) (w' := w.setCells g (off * i.size) vals) (run _ _ ?_) (hK _ _ (out _ _ hstore))
        rw [hqx]
        simp only [Builtin.copy_, Sem.run_bind, Sem.run_pure, Result.andThen_ok, ze hu, s2, zk hi, s1]
        simp [ze hu, s2, zk hi, s1, hst]
        rfl
      ·cases hs
     ·cases hs
    ·cases hs
   ·cases hs
  ·cases hs
 ·cases hs
def Jb (T : Tab) (s : AS) (t : TypeId) (x : Operand) : Option (List Wr) :=
 match s.ev x with
 | .vs b off len n =>
  (match T.u t with
  | some (.slice e) =>
   (match T.i e, T.z e, s.bx b with
   | some i, some z, some cs => if n = i.1 /\ 0 < i.1 /\ z.length = i.1 then (if (off + len) * n <= cs.length then some [.box b (some (splice cs (off * n) (zdn z len)))] else none) else none
   | _, _, _ => none)
  | _ => none)
 | _ => none
theorem zpx (hT : TabOk P T) (h : SimW B M ρ σ s a w) {o : Oper} {t : TypeId} {x : Operand} (ho : o.op = .call { callee := .builtin .clear, args := #[x], argTypes := #[t] }) (hd : o.dst = none) {W : List Wr} (hs : Jb T s t x = some W) (K : Act -> World -> Prop) (Q : Exit -> Act -> World -> Prop) (hK : ∀ a' w', Sim B (s.aps W) a' w' -> K a' w') : o.wp P a w K Q := by
 unfold Jb at hs
 have hx := h.ev x
 have run : ∀ c w', (Builtin.clear_ #[t] o.type #[a.eval x]).run P w = .ok c w' -> (execOp a.eval o).run P w = .ok (.value c) w' := λ c w' hc => by
  unfold execOp
  simp only [ho, resolve, Sem.run_bind, Sem.run_pure, Result.andThen_ok, invoke, builtin]
  simp [hc]
 split at hs
 ·rename_i b off len n hxe
  rw [hxe] at hx
  split at hs
  ·rename_i e hu
   replace hu := hT.u _ _ hu
   split at hs
   ·rename_i p z cs hi hz hcs
    obtain ⟨i, hi, hp1, hp2⟩ := hT.i _ _ hi
    rw [<- hp1] at hs
    split at hs
    ·rename_i hc
     obtain ⟨rfl, c3, c4⟩ := hc
     split at hs
     ·rename_i hfit
      cases hs
      rw [Nat.add_mul] at hfit
      have out : ∀ w', SimW B M ρ σ (s.ap (.box b (some (splice cs (off * i.size) (zdn z len))))) a w' -> Sim B (s.aps [.box b (some (splice cs (off * i.size) (zdn z len)))]) (a.put o.dst (.tuple #[])) w' := λ w' hb => by
       rw [hd]; exact ⟨M, ρ, σ, hb⟩
      generalize hqx : a.eval x = xv at hx
      have none' : (Builtin.clear_ #[t] o.type #[xv]).run P w = .ok (.tuple #[]) w -> len = 0 -> o.wp P a w K Q := λ hr hl0 => by
       refine Zc (run _ _ (by rw [hqx]; exact hr)) (hK _ _ (out _ ?_))
       have e1 : zdn z len = [] := by
        rw [hl0, zc0]; rfl
       rw [e1]
       show SimW B M ρ σ (s.ap (.box b (some cs))) a w
       exact h.samebox hcs
      cases hx with
      | vsn => exact none' (by simp [Builtin.clear_, ze hu]) rfl
      | @vse _ _ _ g qo _ _ => exact none' (by simp [Builtin.clear_, ze hu]) rfl
      | @vs _ _ _ g _ _ cap _ hg hlc hcap =>
       cases hlen : len with
       | zero =>
        rw [hlen] at none'
        exact none' (by simp [Builtin.clear_, ze hu, hlen]) rfl
       | succ l0 =>
        obtain ⟨zv, z1, z2, -⟩ := Zb hT hz
        obtain ⟨p1, p2, p3⟩ := z2 M ρ σ
        have zsz : zv.cells.size = i.size := by omega
        rcases h.box b cs hcs with ⟨-, e⟩ | ⟨g', hg', hh0, r5, r6⟩
        ·rw [hg] at e; cases e
        rw [hg] at hg'
        cases hg'
        obtain ⟨sp, q1, q2, q3⟩ := hcap
        have hrow : Row w g sp.hi := by rw [<- q2]; exact h.cap _ _ q1
        obtain ⟨ccs, ty, r1, r2, r3, r4⟩ := hh0.row hrow
        obtain ⟨f1, f2⟩ := JV z len
        have hrl : (zdn z len).length = len * i.size := by rw [zc0, f1, c4]
        obtain ⟨vals, hvals⟩ : ∃ vals, (Builtin.zeroCells zv.cells len).toList = vals := ⟨_, rfl⟩
        have hvl : vals.length = len * i.size := by rw [<- hvals]; simp [Builtin.zeroCells, zsz]
        have hv1 : ∀ j (hj : j < vals.length), (vals[j]).oneCell' = true := λ j hj => by
         have : j % i.size < zv.cells.size := by rw [zsz]; exact Nat.mod_lt _ c3
         subst hvals
         simp only [Builtin.zeroCells, Array.getElem_toList, Array.getElem_map, Array.getElem_range, zsz]
         rw [getElem!_pos zv.cells (j % i.size) this]; exact p2 _ _
        have hv2 : ∀ j (hj : j < vals.length) (hj' : j < (zdn z len).length), Rd M ρ σ vals[j] (zdn z len)[j] := λ j hj hj' => by
         have k1 : j % i.size < zv.cells.size := by rw [zsz]; exact Nat.mod_lt _ c3
         have k2 : j % i.size < z.length := by omega
         have e0 : (zdn z len)[j]? = z[j % z.length]? := by
          rw [zc0]; exact f2 j (by rw [c4]; omega)
         rw [List.getElem?_eq_getElem hj', c4, List.getElem?_eq_getElem k2] at e0
         rw [Option.some.inj e0]
         subst hvals
         simp only [Builtin.zeroCells, Array.getElem_toList, Array.getElem_map, Array.getElem_range, zsz]
         rw [getElem!_pos zv.cells (j % i.size) k1]
         exact p3 _ _ _
        have hst := run_storeCells_cells (P := P) g (off * i.size) vals 0 w (λ j hj => by
         rw [zY r1, Array.getElem?_eq_getElem (by omega)]; rfl) (λ j hj => r1.frz (by omega)) (λ v hv => by
         obtain ⟨j, hj, e⟩ := List.getElem_of_mem hv
         rw [<- e]; exact hv1 j hj)
        simp only [Nat.add_zero] at hst
        have hstore := h.store b g cs hcs (.inr ⟨_, hrow⟩) hg (off * i.size) vals (zdn z len) (by omega) (by omega) hv1 hv2
        refine Zc (v := .tuple #[]) (w' := w.setCells g (off * i.size) vals) (run _ _ ?_) (hK _ _ (out _ hstore))
        rw [hqx, hlen]
        rw [hlen] at hvals
        simp only [Builtin.clear_, Sem.run_bind, Sem.run_pure, Result.andThen_ok, ze hu]
        simp [ze hu, z1, hvals, hst]
     ·cases hs
    ·cases hs
   ·cases hs
  ·cases hs
 ·cases hs
end
end
section
open Go.RowKit
def eq1 (d : TypeDesc) (x y : AV) : Option Bool :=
 match d with
 | .int _ => (match x, y with | .v (.int k a), .v (.int k' b) => if k = k' then some (a == b) else none | _, _ => none)
 | .bool => (match x, y with | .v (.bool a), .v (.bool b) => some (a == b) | _, _ => none)
 | .string => (match x, y with | .v (.string a), .v (.string b) => some (a == b) | _, _ => none)
 | _ => none
def zoD (T : Tab) (t : TypeId) (cx : List AV) (off : Nat) : Option (List AV) :=
 match T.i t with
 | some i => if off + i.1 <= cx.length then some ((cx.drop off).take i.1) else none
 | none => none
def zvL (T : Tab) (r : TypeId -> List AV -> List AV -> Option Bool) (cx cy : List AV) : List Field -> Option Bool
 | [] => some true
 | fd :: l =>
  if fd.name = "_" then none else
  match zoD T fd.type cx fd.offset, zoD T fd.type cy fd.offset with
  | some a, some b =>
   (match r fd.type a b, zvL T r cx cy l with
   | some p, some q => some (p && q)
   | _, _ => none)
  | _, _ => none
def eqT (T : Tab) : Nat -> TypeId -> List AV -> List AV -> Option Bool
 | 0, _, _, _ => none
 | f + 1, t, cx, cy =>
  match T.u t with
  | some (.struct fs) => if T.q t = true then zvL T (eqT T f) cx cy fs.toList else none
  | some d => if zw d then none else (match cx, cy with | [x], [y] => eq1 d x y | _, _ => none)
  | none => none
def zAx (neg b : Bool) : Bool := match neg with
 | true => !b
 | false => b
def zhn (T : Tab) (s : AS) (neg : Bool) (t : TypeId) (x y : Operand) : Option AV :=
 match s.ev x, s.ev y with
 | .agg cx, .agg cy =>
  if T.q t = true then
   (match T.u t with
   | some (.struct _) => (match eqT T 20 t cx cy with | some b => some (.v (.bool (zAx neg b))) | none => none)
   | _ => none)
  else none
 | .list _ xs _, .v (.slice none 0 0) => (match T.u t with | some (.slice _) => (match xs with | [] => some .ub | _ :: _ => some (.v (.bool neg))) | _ => none)
 | .vs .., .v (.slice none 0 0) => (match T.u t with | some (.slice _) => some .ub | _ => none)
 | .v (.bool p), .v (.bool q) => (match T.u t with | some .bool => some (.v (.bool (zAx neg (p == q)))) | _ => none)
 | _, _ => none
def zoB (T : Tab) (s : AS) (o : Oper) (op : BinOp) (t : TypeId) (x y : Operand) : Option AV :=
 match op, s.ev x with
 | .eql, .agg _ => zhn T s false t x y
 | .eql, .list _ _ _ => zhn T s false t x y
 | .eql, .vs .. => zhn T s false t x y
 | .eql, .v (.bool _) => zhn T s false t x y
 | .neq, .agg _ => zhn T s true t x y
 | .neq, .list _ _ _ => zhn T s true t x y
 | .neq, .vs .. => zhn T s true t x y
 | .neq, .v (.bool _) => zhn T s true t x y
 | _, _ => (zab o s).map nrm
section
variable {P : Program} {T : Tab} {B : Base} {M : Mem} {ρ : Rho} {σ : Sig} {s : AS} {a : Act} {w : World}
def EqV (M : Mem) (ρ : Rho) (σ : Sig) (d : TypeDesc) (v : Value) (cs : List AV) : Prop :=
 (zw d = true -> ∃ a, v = .agg a /\ Pw M ρ σ a cs) /\ (zw d = false -> ∀ x, cs = [x] -> Rd M ρ σ v x)
theorem zc8 (hT : TabOk P T) {t : TypeId} {d : TypeDesc} (hu : P.underlying t = some d) {xs : Array Value} {cx cs : List AV} {off : Nat} (hp : Pw M ρ σ xs cx) (h : zoD T t cx off = some cs) : ∃ v, (part t xs off).run P w = .ok v w /\ ((zw d = true -> EqV M ρ σ d v cs) /\ (zw d = false -> ∀ x, cs = [x] -> Rd M ρ σ v x)) \/ (zw d = false /\ ∀ x, cs ≠ [x]) := by
 unfold zoD at h
 split at h
 ·rename_i p hi
  obtain ⟨i, hi, hp1, hp2⟩ := hT.i _ _ hi
  rw [<- hp1] at h
  split at h
  ·rename_i hle
   cases h
   obtain ⟨p1, p2, p3⟩ := hp
   cases hr : zw d with
   | true =>
    refine ⟨.agg (xs.extract off (off + i.size)), .inl ⟨?_, λ _ => ⟨λ _ => ⟨_, rfl, ?_⟩, λ h => by rw [hr] at h; cases h⟩, λ h => by cases h⟩⟩
    ·unfold part
     simp only [Sem.run_bind, Zj hu, Result.andThen_ok, hr, if_true, zk hi, Sem.run_pure]
    ·refine ⟨by simp; omega, λ j hj => ?_, λ j hj hj' => ?_⟩
     ·simp at hj |-; exact p2 _ _
     ·simp at hj |-; exact p3 _ _ _
   | false =>
    by_cases h1 : ∃ x, (cx.drop off).take i.size = [x]
    ·obtain ⟨x, hx⟩ := h1
     have hl := congrArg List.length hx
     simp at hl
     have hlt : off < xs.size := by omega
     refine ⟨xs[off], .inl ⟨?_, λ h => (by cases h), λ _ x' hx' => ?_⟩⟩
     ·unfold part
      simp only [Sem.run_bind, Zj hu, Result.andThen_ok, hr, Bool.false_eq_true, if_false]
      rw [Array.getElem?_eq_getElem hlt]
      rfl
     ·have e : cx[off]'(by omega) = x' := by
       have e1 : ((cx.drop off).take i.size)[0]? = some x' := by rw [hx']; rfl
       rw [List.getElem?_take] at e1
       split at e1
       ·rw [List.getElem?_drop, Nat.add_zero, List.getElem?_eq_getElem (by omega)] at e1
        exact Option.some.inj e1
       ·cases e1
      rw [<- e]
      exact p3 _ _ _
    ·exact ⟨undef, .inr ⟨rfl, λ x hx => h1 ⟨x, hx⟩⟩⟩
  ·cases h
 ·cases h
theorem ziO (hT : TabOk P T) : ∀ (f : Nat) (t : TypeId) (cx cy : List AV) (r : Bool), eqT T f t cx cy = some r -> ∃ d0, P.underlying t = some d0 /\ (zw d0 = false -> ∃ x y, cx = [x] /\ cy = [y]) /\ ∀ d, f <= d -> ∀ vx vy, EqV M ρ σ d0 vx cx -> EqV M ρ σ d0 vy cy -> (Op.equalIn d t vx vy).run P w = .ok r w
 | 0, t, cx, cy, r, h => by cases h
 | f + 1, t, cx, cy, r, h => by
  unfold eqT at h
  split at h
  ·rename_i fs hu
   replace hu := hT.u _ _ hu
   split at h
   ·rename_i hq
    refine ⟨_, hu, (λ (hh : zw (.struct fs) = false) => by simp [zw] at hh), λ d hd vx vy hx hy => ?_⟩
    obtain ⟨xs, rfl, px⟩ := hx.1 rfl
    obtain ⟨ys, rfl, py⟩ := hy.1 rfl
    obtain ⟨d', rfl⟩ : ∃ d', d = d' + 1 := ⟨d - 1, by omega⟩
    have hf : P.fieldsOf t = fs := by unfold Program.fieldsOf; rw [hu]
    rw [run_equalIn_agg w d' t xs ys (by rw [hf]; exact hu) (hT.q t hq).1, hf]
    generalize fs.toList = l at h
    induction l generalizing r with
    | nil => cases h; simp [Op.eqFields]
    | cons fd l ih =>
     unfold zvL at h
     split at h
     ·cases h
     ·rename_i hn
      split at h
      ·rename_i ca cb ha hb
       split at h
       ·rename_i p q hp hq'
        cases h
        obtain ⟨d1, u1, u2, u3⟩ := ziO hT f _ _ _ _ hp
        have vals : ∃ va vb, (part fd.type xs fd.offset).run P w = .ok va w /\ (part fd.type ys fd.offset).run P w = .ok vb w /\ EqV M ρ σ d1 va ca /\ EqV M ρ σ d1 vb cb := by
         obtain ⟨va, q1⟩ := zc8 (w := w) hT u1 px ha
         obtain ⟨vb, q2⟩ := zc8 (w := w) hT u1 py hb
         rcases q1 with ⟨q1, q1a, q1b⟩ | ⟨n1, n2⟩
         ·rcases q2 with ⟨q2, q2a, q2b⟩ | ⟨n1, n2⟩
          ·exact ⟨va, vb, q1, q2, ⟨λ h => (q1a h).1 h, q1b⟩, ⟨λ h => (q2a h).1 h, q2b⟩⟩
          ·obtain ⟨x, y, e1, e2⟩ := u2 n1; exact absurd e2 (n2 y)
         ·obtain ⟨x, y, e1, e2⟩ := u2 n1; exact absurd e1 (n2 x)
        obtain ⟨va, vb, r1, r2, e1, e2⟩ := vals
        have r3 := u3 d' (by omega) va vb e1 e2
        have ih' := ih q hq'
        simp only [Op.eqFields, Sem.run_bind, Sem.run_ite]
        rw [if_pos hn]
        simp only [r1, r2, r3, Result.andThen_ok]
        cases p with
        | true => simp only [Bool.not_true, Bool.false_eq_true, if_false, Bool.true_and]; exact ih'
        | false => simp
       ·cases h
      ·cases h
   ·cases h
  ·rename_i d0 hnst hu
   replace hu := hT.u _ _ hu
   split at h
   ·cases h
   ·rename_i hrow
    have hrow' : zw d0 = false := by cases hq : zw d0 <;> simp_all
    split at h
    ·rename_i x y
     refine ⟨d0, hu, λ _ => ⟨x, y, rfl, rfl⟩, λ d hd vx vy hx hy => ?_⟩
     obtain ⟨d', rfl⟩ : ∃ d', d = d' + 1 := ⟨d - 1, by omega⟩
     have rx := hx.2 hrow' x rfl
     have ry := hy.2 hrow' y rfl
     unfold eq1 at h
     split at h
     ·split at h
      ·split at h
       ·rename_i hk; subst hk; cases h
        rw [rx.v_inv, ry.v_inv]
        exact run_equalIn_int w d' t _ _ _ _ hu
       ·cases h
      ·cases h
     ·split at h
      ·cases h
       rw [rx.v_inv, ry.v_inv]
       exact run_equalIn_bool' w d' t _ _ hu
      ·cases h
     ·split at h
      ·cases h
       rw [rx.v_inv, ry.v_inv, run_equalIn_string w d' t _ _ hu, beq_toListBytes]
      ·cases h
     ·cases h
    ·cases h
  ·cases h
theorem Jp (w : World) {t e : TypeId} (hu : P.underlying t = some (.slice e)) (d : Nat) (ad : Addr) (l c : Nat) : (Op.equalIn (d + 1) t (.slice (some ad) l c) (.slice none 0 0)).run P w = .ok false w := by
 simp [Op.equalIn, run_underlying hu]
theorem zhM (w : World) {t e : TypeId} (hu : P.underlying t = some (.slice e)) {ad : Addr} {l c : Nat} : (binOp .eql t (.slice (some ad) l c) (.slice none 0 0)).run P w = .ok (.bool false) w := by
 simp only [binOp]
 rw [Sem.run_bind]
 unfold Op.equal Op.maxDepth
 rw [Jp w hu 9999 ad l c]
 rfl
theorem zhN (w : World) {t e : TypeId} (hu : P.underlying t = some (.slice e)) {ad : Addr} {l c : Nat} : (binOp .neq t (.slice (some ad) l c) (.slice none 0 0)).run P w = .ok (.bool true) w := by
 simp only [binOp]
 rw [Sem.run_bind]
 unfold Op.equal Op.maxDepth
 rw [Jp w hu 9999 ad l c]
 rfl
theorem JQ (w : World) {t e : TypeId} (hu : P.underlying t = some (.slice e)) (d : Nat) : (Op.equalIn (d + 1) t (.slice none 0 0) (.slice none 0 0)).run P w = .ok true w := by
 simp [Op.equalIn, run_underlying hu]
theorem zeh (w : World) {o : Oper} {op : BinOp} {t t2 e : TypeId} {x y : Operand} (ho : o.op = .binOp op t x y t2) (hu : P.underlying t = some (.slice e)) {neg : Bool} (hop : op = .eql /\ neg = false \/ op = .neq /\ neg = true) (hy : a.eval y = .slice none 0 0) (hx : a.eval x = .slice none 0 0 \/ ∃ ad l c, a.eval x = .slice (some ad) l c) :
  ∃ b, (execOp a.eval o).run P w = .ok (.value (.bool b)) w /\ ((∃ ad l c, a.eval x = .slice (some ad) l c) -> b = neg) := by
 have g1 : ∀ xv, (eqGuard op t x y xv (.slice none 0 0)).run P w = .ok () w := λ xv => by
  rcases hop with ⟨rfl, rfl⟩ | ⟨rfl, rfl⟩ <;> cases xv <;> simp [eqGuard]
 rcases hx with hx | ⟨ad, l, c, hx⟩
 ·refine ⟨!neg, ?_, λ ⟨ad, l, c, e⟩ => by rw [hx] at e; cases e⟩
  unfold execOp
  simp only [ho, hx, hy, Sem.run_bind]
  rw [g1]
  simp only [Result.andThen_ok]
  rcases hop with ⟨rfl, rfl⟩ | ⟨rfl, rfl⟩
  ·simp only [binOp]
   rw [Sem.run_bind]
   unfold Op.equal Op.maxDepth
   rw [JQ w hu 9999]
   rfl
  ·simp only [binOp]
   rw [Sem.run_bind]
   unfold Op.equal Op.maxDepth
   rw [JQ w hu 9999]
   rfl
 ·refine ⟨neg, ?_, λ _ => rfl⟩
  unfold execOp
  simp only [ho, hx, hy, Sem.run_bind]
  rw [g1]
  simp only [Result.andThen_ok]
  rcases hop with ⟨rfl, rfl⟩ | ⟨rfl, rfl⟩
  ·rw [zhM w hu]; rfl
  ·rw [zhN w hu]; rfl
theorem zj3 (hT : TabOk P T) (h : SimW B M ρ σ s a w) {o : Oper} {op : BinOp} {t t2 : TypeId} {x y : Operand} (ho : o.op = .binOp op t x y t2) {v : AV} (hv : zoB T s o op t x y = some v) : Ze P M ρ σ a w o v := by
 have hx := h.ev x
 have hy := h.ev y
 have go : ∀ neg, (op = .eql /\ neg = false \/ op = .neq /\ neg = true) -> zhn T s neg t x y = some v -> Ze P M ρ σ a w o v := λ neg hop hv => by
  unfold zhn at hv
  split at hv
  ·rename_i cx cy hxe hye
   rw [hxe] at hx
   rw [hye] at hy
   split at hv
   ·rename_i hq
    split at hv
    ·rename_i fs hu
     split at hv
     ·rename_i b hb
      cases hv
      obtain ⟨d0, u1, -, u3⟩ := ziO (M := M) (ρ := ρ) (σ := σ) (w := w) hT 20 t cx cy b hb
      have e0 : d0 = .struct fs := by
       have := hT.u _ _ hu
       rw [u1] at this; exact Option.some.inj this
      subst e0
      generalize hqx : a.eval x = xv at hx
      generalize hqy : a.eval y = yv at hy
      cases hx with
      | @agg _ _ xs _ hl h1 hr =>
      cases hy with
      | @agg _ _ ys _ hl' h1' hr' =>
      have r := u3 10000 (by omega) (.agg xs) (.agg ys) ⟨λ _ => ⟨_, rfl, hl, h1, hr⟩, λ h => by cases h⟩ ⟨λ _ => ⟨_, rfl, hl', h1', hr'⟩, λ h => by cases h⟩
      refine ⟨.bool (zAx neg b), ?_, .v⟩
      unfold execOp
      simp only [ho, hqx, hqy, Sem.run_bind]
      rw [run_eqGuard_agg w op t x y xs ys (hT.q t hq).2]
      simp only [Result.andThen_ok]
      rcases hop with ⟨rfl, rfl⟩ | ⟨rfl, rfl⟩
      ·rw [run_eql_struct, r]; rfl
      ·rw [run_neq_struct, r]; rfl
     ·cases hv
    ·cases hv
   ·cases hv
  ·rename_i n xs tk hxe hye
   rw [hxe] at hx
   rw [hye] at hy
   split at hv
   ·rename_i e hu
    replace hu := hT.u _ _ hu
    have hxc : a.eval x = .slice none 0 0 \/ ∃ ad l c, a.eval x = .slice (some ad) l c := by
     generalize a.eval x = xv at hx
     cases hx with
     | @nil _ _ _ _ av =>
      cases av with
      | none => exact .inl rfl
      | some ad => exact .inr ⟨_, _, _, rfl⟩
     | list => exact .inr ⟨_, _, _, rfl⟩
    obtain ⟨b, h1, h2⟩ := zeh (P := P) w ho hu hop hy.v_inv hxc
    split at hv
    ·cases hv; exact ⟨_, h1, .ub⟩
    ·cases hv
     refine ⟨_, h1, ?_⟩
     rw [h2 (by
      generalize a.eval x = xv at hx
      cases hx with
      | list => exact ⟨_, _, _, rfl⟩)]
     exact .v
   ·cases hv
  ·rename_i hxe hye
   rw [hxe] at hx
   rw [hye] at hy
   split at hv
   ·rename_i e hu
    replace hu := hT.u _ _ hu
    have hxc : a.eval x = .slice none 0 0 \/ ∃ ad l c, a.eval x = .slice (some ad) l c := by
     generalize a.eval x = xv at hx
     cases hx with
     | vs => exact .inr ⟨_, _, _, rfl⟩
     | vsn => exact .inl rfl
     | vse => exact .inr ⟨_, _, _, rfl⟩
    obtain ⟨b, h1, h2⟩ := zeh (P := P) w ho hu hop hy.v_inv hxc
    cases hv
    exact ⟨_, h1, .ub⟩
   ·cases hv
  ·rename_i p q hxe hye
   rw [hxe] at hx
   rw [hye] at hy
   split at hv
   ·rename_i hu
    cases hv
    have he : eqT T 1 t [.v (.bool p)] [.v (.bool q)] = some (p == q) := by
     unfold eqT
     rw [hu]
     rfl
    obtain ⟨d0, u1, -, u3⟩ := ziO (M := M) (ρ := ρ) (σ := σ) (w := w) hT 1 t _ _ _ he
    have e0 : d0 = .bool := by
     have := hT.u _ _ hu
     rw [u1] at this; exact Option.some.inj this
    subst e0
    have r := u3 10000 (by omega) (.bool p) (.bool q) ⟨λ h => (by cases h), λ _ x hx => (by cases hx; exact .v)⟩ ⟨λ h => (by cases h), λ _ x hx => (by cases hx; exact .v)⟩
    refine ⟨.bool (zAx neg (p == q)), ?_, .v⟩
    unfold execOp
    rcases hop with ⟨rfl, rfl⟩ | ⟨rfl, rfl⟩
    ·simp [ho, hx.v_inv, hy.v_inv, eqGuard, binOp]
     unfold Op.equal Op.maxDepth
     rw [r]; rfl
    ·simp [ho, hx.v_inv, hy.v_inv, eqGuard, binOp]
     unfold Op.equal Op.maxDepth
     rw [r]; rfl
   ·cases hv
  ·cases hv
 unfold zoB at hv
 split at hv
 ·exact go false (.inl ⟨rfl, rfl⟩) hv
 ·exact go false (.inl ⟨rfl, rfl⟩) hv
 ·exact go false (.inl ⟨rfl, rfl⟩) hv
 ·exact go false (.inl ⟨rfl, rfl⟩) hv
 ·exact go true (.inr ⟨rfl, rfl⟩) hv
 ·exact go true (.inr ⟨rfl, rfl⟩) hv
 ·exact go true (.inr ⟨rfl, rfl⟩) hv
 ·exact go true (.inr ⟨rfl, rfl⟩) hv
 ·obtain ⟨v', h1, h2⟩ := Option.map_eq_some_iff.1 hv
  subst h2
  exact ⟨v', znw h h1, Rd.nrm v'⟩
end
end
end Go.Proofs.YthdgnfcbehcplaaGreatDoor
