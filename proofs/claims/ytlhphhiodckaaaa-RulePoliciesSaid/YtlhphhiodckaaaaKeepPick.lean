/- The picks of an event that package keep draws. (written by gen_event.py) -/
import Derived.Test.YtlhphhiodckaaaaKeepEv
import Derived.Deep.MidRow
namespace Go.Proofs.Ytlhphhiodckaaaa
open Go.RowKit
set_option linter.unusedVariables false
set_option linter.unusedSimpArgs false
/-- A pick that is drawn. -/
structure Pk where
  s : ByteArray
  t1 : Int
  t2 : Int
  t3 : Int
  am : Int
def PkOk (t n : Int) (k : Pk) : Prop := k.t1 = t + 10 * n ∧ k.t2 = t + 10 * n ∧ t + 10 * n ≤ k.t3 ∧ k.t3 ≤ t + 10 * n + 2 ∧ k.am = n
def pkVals : List Pk → List Value
  | [] => []
  | k :: A => [.string ⟨#[65, 66]⟩, .string k.s, .string ⟨#[48, 48]⟩, .string ⟨#[66, 72, 90]⟩, .int .i64 k.t1, .int .i64 k.t2, .int .i64 k.t3, .int .i64 k.am, .int .i64 0] ++ pkVals A
theorem pkVals_append : ∀ A B : List Pk, pkVals (A ++ B) = pkVals A ++ pkVals B
  | [], _ => rfl
  | _ :: A, B => by simp [pkVals, pkVals_append A B]
theorem pkVals_length : ∀ A : List Pk, (pkVals A).length = A.length * 9
  | [] => rfl
  | _ :: A => by simp [pkVals, pkVals_length A]; omega
theorem info_pick : (Try.prog.info? 30).map (fun i => (i.zero, i.size, i.bytes)) = some (some (.agg #[.string ⟨#[]⟩, .string ⟨#[]⟩, .string ⟨#[]⟩, .string ⟨#[]⟩, .int .i64 0, .int .i64 0, .int .i64 0, .int .i64 0, .int .i64 0]), 9, 104) := by kernel_rfl
def setsA (cs : Array Value) (o : Nat) : List Value → Array Value
  | [] => cs
  | v :: vs => setsA (cs.setIfInBounds o v) (o + 1) vs
theorem sets_heap {t : TypeId} {g : Nat} : ∀ (vs : List Value) (w : World) (cs : Array Value) (o : Nat), w.heap[g]? = some (.cells cs t (0, 0)) → (w.setCells g o vs).heap[g]? = some (.cells (setsA cs o vs) t (0, 0))
  | [], _, _, _, h => h
  | v :: vs, w, cs, o, h => sets_heap vs _ _ (o + 1) (setCell_row h v)
theorem sets_below {g : Nat} : ∀ (vs : List Value) (w : World) (o : Nat), Below g w (w.setCells g o vs)
  | [], w, _ => Below.refl g w
  | v :: vs, w, o => (Below.setCell (Below.refl g w) (p := ⟨g, o, none⟩) (Nat.le_refl g) v).trans (sets_below vs _ (o + 1))
theorem sets_other {g k : Nat} (hk : k ≠ g) : ∀ (vs : List Value) (w : World) (o : Nat), (w.setCells g o vs).heap[k]? = w.heap[k]?
  | [], _, _ => rfl
  | v :: vs, w, o => (sets_other hk vs _ (o + 1)).trans (Below.heap_setCell _ _ _ _ (show k ≠ g from hk))
theorem Rolls.sets {g k : Nat} {w0 w : World} (h : Rolls g w0 w) (vs : List Value) (o : Nat) (hk : w0.heap.size ≤ k) : Rolls g w0 (w.setCells k o vs) :=
  have hb := sets_below (g := k) vs w o
  ⟨Nat.le_trans h.size hb.size, fun i hi hg => (hb.block i (Nat.lt_of_lt_of_le hi hk)).trans (h.block i hi hg)⟩
theorem range3 {w : World} {g o : Nat} {cs : Array Value} {t : TypeId} {x y z : Value} (h : w.heap[g]? = some (.cells cs t (0, 0))) (h0 : cs[o]? = some x) (h1 : cs[o + 1]? = some y) (h2 : cs[o + 2]? = some z) : w.rangeAt g o [x, y, z] := fun j v hj => by
  match j, hj with
  | 0, hj => simp at hj; subst hj; exact boxed_at h h0
  | 1, hj => simp at hj; subst hj; exact boxed_at h h1
  | 2, hj => simp at hj; subst hj; exact boxed_at h h2
  | j + 3, hj => simp at hj
theorem there_row {w : World} {g : Nat} {cs : Array Value} {t : TypeId} (h : w.heap[g]? = some (.cells cs t (0, 0))) (o n : Nat) (hn : o + n ≤ cs.size) : w.there g o n := fun j hj => by
  refine ⟨?_, frozen_of_row _ _ _ _ _ h⟩
  rw [cell_of_row _ _ _ _ _ _ h, Array.getElem?_eq_getElem (by omega)]
  rfl
theorem pk_cells {w : World} {B : Nat} {e : TypeId} {gg n cap : Nat} {xs : List Value} (h : w.ownsRow B e 9 (.slice (some ⟨gg, 0, none⟩) n cap) n xs) : ∀ j u, xs[j]? = some u → w.cell? ⟨gg, j, none⟩ = some u := by
  intro j u hj
  obtain ⟨_, hc⟩ := (Own.of_ownsRow h).cells rfl
  obtain ⟨_, hc⟩ := hc _ rfl
  have := hc j u hj
  rw [show (⟨gg, 0, none⟩ : Addr).add j = ⟨gg, j, none⟩ from by unfold Addr.add; split <;> simp_all] at this
  exact this
/-- What holds in the midst of the statement: L says which operations have come. -/
structure PickC (W : World) (a : Option Addr) (len cap g : Nat) (w : World) (g5 : Nat) (A : List Pk) (v : Value) (t n i : Int) (L : Nat → Bool) (u : Nat → Value) (x : World) : Prop where
  src : Src W a len cap g x
  rol : Rolls g w x
  b4 : x.heap[w.heap.size]? = some (.cells #[.string ⟨#[]⟩, .string ⟨#[]⟩, .string ⟨#[]⟩, .string ⟨#[]⟩, .int .i64 0, .int .i64 0, .int .i64 0, .int .i64 0, .int .i64 0, .slice none 0 0, .int .i64 0, .int .i64 0, .int .i64 0, .int .i64 0, .int .i64 0, .int .i64 0, .int .i64 0, .int .i64 0, .int .i64 0, .int .i64 0, .int .i64 0, .int .i64 0, .int .i64 0, .int .i64 0, .int .i64 0] 43 (0, 0))
  b5 : L 26 = false → x.heap[g5]? = some (.cells #[.string ⟨#[]⟩, .string ⟨#[]⟩, .string ⟨#[]⟩, .string ⟨#[]⟩, .int .i64 0, .int .i64 0, .int .i64 0, .int .i64 0, .int .i64 0, v, .int .i64 0, .int .i64 0, .int .i64 0, .int .i64 0, .int .i64 0, .int .i64 0, .int .i64 0, .int .i64 0, .int .i64 0, .int .i64 0, .int .i64 0, .int .i64 0, .int .i64 0, .int .i64 0, .int .i64 0] 43 (0, 0))
  own : L 23 = false → x.ownsRow (g5 + 1) 30 9 v A.length (pkVals A)
  f0 : L 0 = true → u 18 = .pointer (some ⟨g5, 9, none⟩)
  f1 : L 1 = true → u 19 = .pointer (some ⟨g5, 9, none⟩)
  f2 : L 2 = true → u 20 = v
  f3 : L 3 = true → u 21 = .int .i64 i
  f4 : L 4 = true → ∃ s : ByteArray, u 22 = .agg #[.string ⟨#[65, 66]⟩, .string s, .string ⟨#[48, 48]⟩, .string ⟨#[66, 72, 90]⟩]
  f5 : L 5 = true → u 23 = .int .i64 t
  f6 : L 6 = true → u 24 = .int .i64 n
  f7 : L 7 = true → u 25 = .int .i64 (10 * n)
  f8 : L 8 = true → u 26 = .int .i64 (t + 10 * n)
  f9 : L 9 = true → u 27 = .int .i64 t
  f10 : L 10 = true → u 28 = .int .i64 n
  f11 : L 11 = true → u 29 = .int .i64 (10 * n)
  f12 : L 12 = true → u 30 = .int .i64 (t + 10 * n)
  f13 : L 13 = true → u 31 = .int .i64 t
  f14 : L 14 = true → u 32 = .int .i64 n
  f15 : L 15 = true → u 33 = .int .i64 (10 * n)
  f16 : L 16 = true → u 34 = .int .i64 (t + 10 * n)
  f17 : L 17 = true → u 35 = .pointer (some ⟨g, 0, none⟩)
  f18 : L 18 = true → ∃ z : Int, u 36 = .int .i64 z ∧ 0 ≤ z ∧ z ≤ 2
  f19 : L 19 = true → ∃ z : Int, u 37 = .int .i64 (t + 10 * n + z) ∧ 0 ≤ z ∧ z ≤ 2
  f20 : L 20 = true → u 38 = .int .i64 n
  f21 : L 21 = true → ∃ k : Pk, PkOk t n k ∧ u 39 = .agg #[.string ⟨#[65, 66]⟩, .string k.s, .string ⟨#[48, 48]⟩, .string ⟨#[66, 72, 90]⟩, .int .i64 k.t1, .int .i64 k.t2, .int .i64 k.t3, .int .i64 k.am, .int .i64 0]
  f22 : L 22 = true → ∃ (k : Pk) (b : Nat), PkOk t n k ∧ u 40 = .slice (some ⟨b, 0, none⟩) 1 1 ∧ b ≠ g ∧ (L 23 = false → x.heap[b]? = some (.cells #[.string ⟨#[65, 66]⟩, .string k.s, .string ⟨#[48, 48]⟩, .string ⟨#[66, 72, 90]⟩, .int .i64 k.t1, .int .i64 k.t2, .int .i64 k.t3, .int .i64 k.am, .int .i64 0] 30 (0, 0)))
  f23 : L 23 = true → L 2 = true ∧ ∃ k : Pk, PkOk t n k ∧ x.ownsRow (g5 + 1) 30 9 (u 41) (A.length + 1) (pkVals (A ++ [k]))
  f24 : L 24 = true → u 42 = .pointer (some ⟨g5, 9, none⟩)
  f25 : L 25 = true → u 43 = .pointer (some ⟨g5, 9, none⟩)
  f26 : L 26 = true → L 23 = true ∧ x.heap[g5]? = some (.cells #[.string ⟨#[]⟩, .string ⟨#[]⟩, .string ⟨#[]⟩, .string ⟨#[]⟩, .int .i64 0, .int .i64 0, .int .i64 0, .int .i64 0, .int .i64 0, (u 41), .int .i64 0, .int .i64 0, .int .i64 0, .int .i64 0, .int .i64 0, .int .i64 0, .int .i64 0, .int .i64 0, .int .i64 0, .int .i64 0, .int .i64 0, .int .i64 0, .int .i64 0, .int .i64 0, .int .i64 0] 43 (0, 0))
theorem PickC.rolls {W : World} {a : Option Addr} {len cap g : Nat} {w : World} {g5 : Nat} {A : List Pk} {v : Value} {t n i : Int} {L : Nat → Bool} {u : Nat → Value} {x y : World} (h : PickC W a len cap g w g5 A v t n i L u x) (hg : g < w.heap.size) (h3 : w.heap.size < g5) (hd : Src W a len cap g y) (hr : Rolls g x y) : PickC W a len cap g w g5 A v t n i L u y :=
  { h with
    src := hd
    rol := h.rol.trans hr
    b4 := hr.blk h.b4 (by omega)
    b5 := fun e => hr.blk (h.b5 e) (by omega)
    own := fun e => owns_heap (h.own e) fun k h1 h2 => hr.block k h2 (by omega)
    f22 := fun e => by
      obtain ⟨k, b, h0, h1, h2, h3⟩ := h.f22 e
      exact ⟨k, b, h0, h1, h2, fun e => hr.blk (h3 e) h2⟩
    f23 := fun e => by
      obtain ⟨h0, k, h2, h3⟩ := h.f23 e
      exact ⟨h0, k, h2, owns_heap h3 fun k h1 h2 => hr.block k h2 (by omega)⟩
    f26 := fun e => by
      obtain ⟨h0, h1⟩ := h.f26 e
      exact ⟨h0, hr.blk h1 (by omega)⟩ }
/-- The numbers of an event that is drawn. -/
structure EvOk (e : Ev) : Prop where
  x : -20 ≤ e.x ∧ e.x ≤ 20
  y : -20 ≤ e.y ∧ e.y ≤ 20
  z : 0 ≤ e.z ∧ e.z ≤ 20
  tm : 961 ≤ e.tm ∧ e.tm ≤ 1299
  mf : 0 ≤ e.mf ∧ e.mf ≤ 500
  ct : 0 ≤ e.ct ∧ e.ct ≤ 2
  lo : 0 ≤ e.lo ∧ e.lo ≤ 399
  hi : e.lo ≤ e.hi ∧ e.hi ≤ e.lo + 59
/-- Its picks: the name is that of the first one. -/
def EvFrom (n : Int) (e : Ev) (A : List Pk) : Prop := e.n = A.length ∧ ∃ t : Int, 1000 ≤ t ∧ t ≤ 1299 ∧ (∀ k ∈ A, PkOk t n k) ∧ e.a1 = ⟨#[65, 66]⟩ ∧ e.t1 = t + 10 * n ∧ e.t2 = t + 10 * n ∧ t + 10 * n ≤ e.t3 ∧ e.t3 ≤ t + 10 * n + 2 ∧ e.am = n
set_option maxHeartbeats 8000000 in
set_option maxRecDepth 100000 in
theorem keep_event {W : World} {a : Option Addr} {len cap g : Nat} (n : Int) (hn : 0 ≤ n ∧ n ≤ 1000) (w : World) (hd : Src W a len cap g w) :
    Calls Try.prog 11 #[.pointer (some ⟨g, 0, none⟩), .int .i64 n] w fun en w' => (∃ (e : Ev) (A : List Pk), en = .returned (.agg #[.string e.a1, .string e.a2, .string e.a3, .string e.a4, .int .i64 e.t1, .int .i64 e.t2, .int .i64 e.t3, .int .i64 e.am, .int .i64 e.po, .slice e.p e.n e.c, .int .i64 e.x, .int .i64 e.y, .int .i64 e.z, .int .i64 e.tm, .int .i64 e.mf, .int .i64 e.lw, .int .i64 e.b1, .int .i64 e.b2, .int .i64 e.b3, .int .i64 e.b4, .int .i64 e.b5, .int .i64 e.b6, .int .i64 e.lo, .int .i64 e.hi, .int .i64 e.ct]) ∧ 1 ≤ A.length ∧ A.length ≤ 4 ∧ EvFrom n e A ∧ EvOk e ∧ w'.ownsRow (w.heap.size + 1 + 1) 30 9 (.slice e.p e.n e.c) A.length (pkVals A)) ∧ Src W a len cap g w' ∧ Rolls g w w' := by
  obtain ⟨i0, hi0, hz0, hz1, hz2⟩ := info_parts info_pick
  obtain ⟨hn0, hn1⟩ := hn
  have hgB : g < w.heap.size := hd.lt
  have hWB : W.heap.size ≤ w.heap.size := hd.low.size
  have HD := hide (((hd.alloc (.cells #[.string ⟨#[]⟩, .string ⟨#[]⟩, .string ⟨#[]⟩, .string ⟨#[]⟩, .int .i64 0, .int .i64 0, .int .i64 0, .int .i64 0, .int .i64 0, .slice none 0 0, .int .i64 0, .int .i64 0, .int .i64 0, .int .i64 0, .int .i64 0, .int .i64 0, .int .i64 0, .int .i64 0, .int .i64 0, .int .i64 0, .int .i64 0, .int .i64 0, .int .i64 0, .int .i64 0, .int .i64 0] 43)).alloc (.cells #[.string ⟨#[]⟩, .string ⟨#[]⟩, .string ⟨#[]⟩, .string ⟨#[]⟩, .int .i64 0, .int .i64 0, .int .i64 0, .int .i64 0, .int .i64 0, .slice none 0 0, .int .i64 0, .int .i64 0, .int .i64 0, .int .i64 0, .int .i64 0, .int .i64 0, .int .i64 0, .int .i64 0, .int .i64 0, .int .i64 0, .int .i64 0, .int .i64 0, .int .i64 0, .int .i64 0, .int .i64 0] 43)))
  have G4 := hide (pair_alloc (heap_alloc_new w (.cells #[.string ⟨#[]⟩, .string ⟨#[]⟩, .string ⟨#[]⟩, .string ⟨#[]⟩, .int .i64 0, .int .i64 0, .int .i64 0, .int .i64 0, .int .i64 0, .slice none 0 0, .int .i64 0, .int .i64 0, .int .i64 0, .int .i64 0, .int .i64 0, .int .i64 0, .int .i64 0, .int .i64 0, .int .i64 0, .int .i64 0, .int .i64 0, .int .i64 0, .int .i64 0, .int .i64 0, .int .i64 0] 43)) (.cells #[.string ⟨#[]⟩, .string ⟨#[]⟩, .string ⟨#[]⟩, .string ⟨#[]⟩, .int .i64 0, .int .i64 0, .int .i64 0, .int .i64 0, .int .i64 0, .slice none 0 0, .int .i64 0, .int .i64 0, .int .i64 0, .int .i64 0, .int .i64 0, .int .i64 0, .int .i64 0, .int .i64 0, .int .i64 0, .int .i64 0, .int .i64 0, .int .i64 0, .int .i64 0, .int .i64 0, .int .i64 0] 43))
  have G5 := hide (new_at (w := w.alloc (.cells #[.string ⟨#[]⟩, .string ⟨#[]⟩, .string ⟨#[]⟩, .string ⟨#[]⟩, .int .i64 0, .int .i64 0, .int .i64 0, .int .i64 0, .int .i64 0, .slice none 0 0, .int .i64 0, .int .i64 0, .int .i64 0, .int .i64 0, .int .i64 0, .int .i64 0, .int .i64 0, .int .i64 0, .int .i64 0, .int .i64 0, .int .i64 0, .int .i64 0, .int .i64 0, .int .i64 0, .int .i64 0] 43)) (.cells #[.string ⟨#[]⟩, .string ⟨#[]⟩, .string ⟨#[]⟩, .string ⟨#[]⟩, .int .i64 0, .int .i64 0, .int .i64 0, .int .i64 0, .int .i64 0, .slice none 0 0, .int .i64 0, .int .i64 0, .int .i64 0, .int .i64 0, .int .i64 0, .int .i64 0, .int .i64 0, .int .i64 0, .int .i64 0, .int .i64 0, .int .i64 0, .int .i64 0, .int .i64 0, .int .i64 0, .int .i64 0] 43) (g := w.heap.size + 1) (by simp))
  have HR := hide (Rolls.of_below (g := g) (below2 (w := w) (.cells #[.string ⟨#[]⟩, .string ⟨#[]⟩, .string ⟨#[]⟩, .string ⟨#[]⟩, .int .i64 0, .int .i64 0, .int .i64 0, .int .i64 0, .int .i64 0, .slice none 0 0, .int .i64 0, .int .i64 0, .int .i64 0, .int .i64 0, .int .i64 0, .int .i64 0, .int .i64 0, .int .i64 0, .int .i64 0, .int .i64 0, .int .i64 0, .int .i64 0, .int .i64 0, .int .i64 0, .int .i64 0] 43) (.cells #[.string ⟨#[]⟩, .string ⟨#[]⟩, .string ⟨#[]⟩, .string ⟨#[]⟩, .int .i64 0, .int .i64 0, .int .i64 0, .int .i64 0, .int .i64 0, .slice none 0 0, .int .i64 0, .int .i64 0, .int .i64 0, .int .i64 0, .int .i64 0, .int .i64 0, .int .i64 0, .int .i64 0, .int .i64 0, .int .i64 0, .int .i64 0, .int .i64 0, .int .i64 0, .int .i64 0, .int .i64 0] 43)))
  clear hd
  go_enter Try.func11, Try.ntmps11
  go_upto_region 2 with fail
  generalize (w.alloc (.cells #[.string ⟨#[]⟩, .string ⟨#[]⟩, .string ⟨#[]⟩, .string ⟨#[]⟩, .int .i64 0, .int .i64 0, .int .i64 0, .int .i64 0, .int .i64 0, .slice none 0 0, .int .i64 0, .int .i64 0, .int .i64 0, .int .i64 0, .int .i64 0, .int .i64 0, .int .i64 0, .int .i64 0, .int .i64 0, .int .i64 0, .int .i64 0, .int .i64 0, .int .i64 0, .int .i64 0, .int .i64 0] 43)).alloc (.cells #[.string ⟨#[]⟩, .string ⟨#[]⟩, .string ⟨#[]⟩, .string ⟨#[]⟩, .int .i64 0, .int .i64 0, .int .i64 0, .int .i64 0, .int .i64 0, .slice none 0 0, .int .i64 0, .int .i64 0, .int .i64 0, .int .i64 0, .int .i64 0, .int .i64 0, .int .i64 0, .int .i64 0, .int .i64 0, .int .i64 0, .int .i64 0, .int .i64 0, .int .i64 0, .int .i64 0, .int .i64 0] 43) = V at HD G4 G5 HR ⊢
  obtain ⟨g5, hg5⟩ : ∃ g5, w.heap.size + 1 = g5 := ⟨_, rfl⟩
  rw [hg5] at G5 ⊢
  have hgl : w.heap.size < g5 := by omega
  go_upto_block 0 with (first
    | (go_at_call 20; (with_reducible refine (keep_n W a len cap g 300 ?_ _ HD.out).mono ?_); (focus omega); rintro e w1 ⟨⟨x, rfl, x0, x1⟩, hd1, hr1⟩; (have HD := hide hd1); (have G4 := hide (hr1.blk G4.out (by omega))); (have G5 := hide (hr1.blk G5.out (by omega))); (have HR := hide (HR.out.trans hr1)); clear hd1 hr1))
  obtain ⟨t, ht⟩ : ∃ t : Int, 1000 + x = t := ⟨_, rfl⟩
  have ht0 : 1000 ≤ t ∧ t ≤ 1299 := by omega
  obtain ⟨ht0, ht1⟩ := ht0
  rw [ht]
  clear ht x0 x1
  go_cut [] from 7 (fun wx => ∃ (A : List Pk) (v : Value), 1 ≤ A.length ∧ A.length ≤ 4 ∧ Hid (∀ k ∈ A, PkOk t n k) ∧ Hid (wx.heap[g5]? = some (.cells #[.string ⟨#[]⟩, .string ⟨#[]⟩, .string ⟨#[]⟩, .string ⟨#[]⟩, .int .i64 0, .int .i64 0, .int .i64 0, .int .i64 0, .int .i64 0, v, .int .i64 0, .int .i64 0, .int .i64 0, .int .i64 0, .int .i64 0, .int .i64 0, .int .i64 0, .int .i64 0, .int .i64 0, .int .i64 0, .int .i64 0, .int .i64 0, .int .i64 0, .int .i64 0, .int .i64 0] 43 (0, 0))) ∧ Hid (wx.heap[w.heap.size]? = some (.cells #[.string ⟨#[]⟩, .string ⟨#[]⟩, .string ⟨#[]⟩, .string ⟨#[]⟩, .int .i64 0, .int .i64 0, .int .i64 0, .int .i64 0, .int .i64 0, .slice none 0 0, .int .i64 0, .int .i64 0, .int .i64 0, .int .i64 0, .int .i64 0, .int .i64 0, .int .i64 0, .int .i64 0, .int .i64 0, .int .i64 0, .int .i64 0, .int .i64 0, .int .i64 0, .int .i64 0, .int .i64 0] 43 (0, 0))) ∧ Hid (wx.ownsRow (g5 + 1) 30 9 v A.length (pkVals A)) ∧ Hid (Src W a len cap g wx) ∧ Hid (Rolls g w wx))
  case first =>
    go_wp2_with fail
    go_loopg [7] 4 (fun gn t7 wr => ∃ (A : List Pk) (v : Value), gn = 4 - A.length ∧ t7 = .int .i64 (A.length : Nat) ∧ A.length ≤ 4 ∧ Hid (∀ k ∈ A, PkOk t n k) ∧ Hid (wr.heap[g5]? = some (.cells #[.string ⟨#[]⟩, .string ⟨#[]⟩, .string ⟨#[]⟩, .string ⟨#[]⟩, .int .i64 0, .int .i64 0, .int .i64 0, .int .i64 0, .int .i64 0, v, .int .i64 0, .int .i64 0, .int .i64 0, .int .i64 0, .int .i64 0, .int .i64 0, .int .i64 0, .int .i64 0, .int .i64 0, .int .i64 0, .int .i64 0, .int .i64 0, .int .i64 0, .int .i64 0, .int .i64 0] 43 (0, 0))) ∧ Hid (wr.heap[w.heap.size]? = some (.cells #[.string ⟨#[]⟩, .string ⟨#[]⟩, .string ⟨#[]⟩, .string ⟨#[]⟩, .int .i64 0, .int .i64 0, .int .i64 0, .int .i64 0, .int .i64 0, .slice none 0 0, .int .i64 0, .int .i64 0, .int .i64 0, .int .i64 0, .int .i64 0, .int .i64 0, .int .i64 0, .int .i64 0, .int .i64 0, .int .i64 0, .int .i64 0, .int .i64 0, .int .i64 0, .int .i64 0, .int .i64 0] 43 (0, 0))) ∧ Hid (wr.ownsRow (g5 + 1) 30 9 v A.length (pkVals A)) ∧ Hid (Src W a len cap g wr) ∧ Hid (Rolls g w wr))
    case atStart => exact ⟨[], .slice none 0 0, rfl, rfl, by simp, hide (fun k hk => by cases hk), G5, G4, World.ownsRow_nil _ _ _ _, HD, HR⟩
    case round =>
      clear HD HR G4 G5
      obtain ⟨A, v, hgn, rfl, hA4, HOK, G5, G4, HO, HD, HR⟩ := hrel
      go_upto_if 15 with (first
        | (go_at_call 20; (with_reducible refine (keep_n W a len cap g 4 ?_ _ HD.out).mono ?_); (focus omega); rintro e w2 ⟨⟨z, rfl, z0, z1⟩, hd1, hr1⟩; (have HD := hide hd1); (have G4 := hide (hr1.blk G4.out (by omega))); (have hg5b := (Array.getElem?_eq_some_iff.1 G5.out).1); (have HO := hide (owns_heap HO.out fun k h1 h2 => hr1.block k h2 (by omega))); (have G5 := hide (hr1.blk G5.out (by omega))); (have HR := hide (HR.out.trans hr1)); clear hd1 hr1 hg5b))
      by_cases hlt : (A.length : Int) < 1 + z
      · have dz : decide ((A.length : Int) < 1 + z) = true := by simp; omega
        rw [dz]
        clear dz
        go_upto_block 1 with fail
        go_cut [7] from 11 to 43 (fun t7 wx => t7 = .int .i64 (A.length : Nat) ∧ ∃ (k : Pk) (v' : Value), PkOk t n k ∧ Hid (wx.heap[g5]? = some (.cells #[.string ⟨#[]⟩, .string ⟨#[]⟩, .string ⟨#[]⟩, .string ⟨#[]⟩, .int .i64 0, .int .i64 0, .int .i64 0, .int .i64 0, .int .i64 0, v', .int .i64 0, .int .i64 0, .int .i64 0, .int .i64 0, .int .i64 0, .int .i64 0, .int .i64 0, .int .i64 0, .int .i64 0, .int .i64 0, .int .i64 0, .int .i64 0, .int .i64 0, .int .i64 0, .int .i64 0] 43 (0, 0))) ∧ Hid (wx.heap[w.heap.size]? = some (.cells #[.string ⟨#[]⟩, .string ⟨#[]⟩, .string ⟨#[]⟩, .string ⟨#[]⟩, .int .i64 0, .int .i64 0, .int .i64 0, .int .i64 0, .int .i64 0, .slice none 0 0, .int .i64 0, .int .i64 0, .int .i64 0, .int .i64 0, .int .i64 0, .int .i64 0, .int .i64 0, .int .i64 0, .int .i64 0, .int .i64 0, .int .i64 0, .int .i64 0, .int .i64 0, .int .i64 0, .int .i64 0] 43 (0, 0))) ∧ Hid (wx.ownsRow (g5 + 1) 30 9 v' (A.length + 1) (pkVals (A ++ [k]))) ∧ Hid (Src W a len cap g wx) ∧ Hid (Rolls g w wx))
        case first =>
          go_upto_region 6 with fail
          refine wp_region_inv (fun L a' w' => ∃ u : Nat → Value, a' = { tmps := #[.pointer (some ⟨g, 0, none⟩), .int .i64 n, undef, undef, .pointer (some ⟨w.heap.size, 0, none⟩), .pointer (some ⟨g5, 0, none⟩), .int .i64 t, .int .i64 (A.length : Nat), .pointer (some ⟨g, 0, none⟩), .int .i64 x, .int .i64 t, .int .i64 (A.length : Nat), .pointer (some ⟨g, 0, none⟩), .int .i64 z, .int .i64 (1 + z), .bool true, u16, u17, u 18, u 19, u 20, u 21, u 22, u 23, u 24, u 25, u 26, u 27, u 28, u 29, u 30, u 31, u 32, u 33, u 34, u 35, u 36, u 37, u 38, u 39, u 40, u 41, u 42, u 43, undef, undef, undef, undef, undef, undef, undef, undef, undef, undef, undef, undef, undef, undef, undef, undef, undef, undef, undef, undef, undef, undef, undef, undef, undef, undef, undef, undef, undef, undef, undef, undef, undef, undef, undef, undef, undef, undef, undef, undef, undef, undef, undef, undef, undef, undef, undef, undef, undef, undef, undef, undef, undef, undef], defers := [] } ∧ PickC W a len cap g w g5 A v t n (A.length : Nat) L u w') (by kernel_rfl) (by kernel_rfl) ?h0 ?hs ?hd
          case h0 =>
            exact ⟨fun s => if s = 18 then u18 else if s = 19 then u19 else if s = 20 then u20 else if s = 21 then u21 else if s = 22 then u22 else if s = 23 then u23 else if s = 24 then u24 else if s = 25 then u25 else if s = 26 then u26 else if s = 27 then u27 else if s = 28 then u28 else if s = 29 then u29 else if s = 30 then u30 else if s = 31 then u31 else if s = 32 then u32 else if s = 33 then u33 else if s = 34 then u34 else if s = 35 then u35 else if s = 36 then u36 else if s = 37 then u37 else if s = 38 then u38 else if s = 39 then u39 else if s = 40 then u40 else if s = 41 then u41 else if s = 42 then u42 else u43, rfl, { src := HD.out.drew, rol := HR.out.trans (Rolls.of_below (Below.refl _ _).drew), b4 := G4.out, b5 := fun _ => G5.out, own := fun _ => HO.out, f0 := fun e => Bool.noConfusion e, f1 := fun e => Bool.noConfusion e, f2 := fun e => Bool.noConfusion e, f3 := fun e => Bool.noConfusion e, f4 := fun e => Bool.noConfusion e, f5 := fun e => Bool.noConfusion e, f6 := fun e => Bool.noConfusion e, f7 := fun e => Bool.noConfusion e, f8 := fun e => Bool.noConfusion e, f9 := fun e => Bool.noConfusion e, f10 := fun e => Bool.noConfusion e, f11 := fun e => Bool.noConfusion e, f12 := fun e => Bool.noConfusion e, f13 := fun e => Bool.noConfusion e, f14 := fun e => Bool.noConfusion e, f15 := fun e => Bool.noConfusion e, f16 := fun e => Bool.noConfusion e, f17 := fun e => Bool.noConfusion e, f18 := fun e => Bool.noConfusion e, f19 := fun e => Bool.noConfusion e, f20 := fun e => Bool.noConfusion e, f21 := fun e => Bool.noConfusion e, f22 := fun e => Bool.noConfusion e, f23 := fun e => Bool.noConfusion e, f24 := fun e => Bool.noConfusion e, f25 := fun e => Bool.noConfusion e, f26 := fun e => Bool.noConfusion e }⟩
          case hs =>
            refine (Steps.cons ?_ (Steps.cons ?_ (Steps.cons ?_ (Steps.cons ?_ (Steps.cons ?_ (Steps.cons ?_ (Steps.cons ?_ (Steps.cons ?_ (Steps.cons ?_ (Steps.cons ?_ (Steps.cons ?_ (Steps.cons ?_ (Steps.cons ?_ (Steps.cons ?_ (Steps.cons ?_ (Steps.cons ?_ (Steps.cons ?_ (Steps.cons ?_ (Steps.cons ?_ (Steps.cons ?_ (Steps.cons ?_ (Steps.cons ?_ (Steps.cons ?_ (Steps.cons ?_ (Steps.cons ?_ (Steps.cons ?_ (Steps.cons ?_ Steps.nil)))))))))))))))))))))))))))
            · intro L a' x hL hc hI K' hK
              obtain ⟨u, rfl, hC⟩ := hI
              have HK := hide hK
              have HC := hide hC
              clear hK hC hc
              go_simp
              exact HK.out _ _ ⟨fun s => if s = 18 then .pointer (some ⟨g5, 9, none⟩) else u s, rfl, { HC.out with f0 := fun _ => rfl }⟩
            · intro L a' x hL hc hI K' hK
              obtain ⟨u, rfl, hC⟩ := hI
              have d0 : L 0 = true := hc ⟨0, .data⟩ (by simp) rfl
              have HK := hide hK
              have HC := hide hC
              clear hK hC hc
              have e18 := HC.out.f0 d0
              go_simp
              exact HK.out _ _ ⟨fun s => if s = 19 then .pointer (some ⟨g5, 9, none⟩) else u s, by simp [e18], { HC.out with f1 := fun _ => rfl }⟩
            · intro L a' x hL hc hI K' hK
              obtain ⟨u, rfl, hC⟩ := hI
              have d1 : L 1 = true := hc ⟨1, .data⟩ (by simp) rfl
              have HK := hide hK
              have HC := hide hC
              clear hK hC hc
              have h26 : L 26 = false := by
                cases h : L 26
                · rfl
                · have := (HC.out.f23 (HC.out.f26 h).1).1; rw [hL] at this; cases this
              have m0 : x.cell? ⟨g5, 9, none⟩ = some v := boxed_at (HC.out.b5 h26) rfl
              have e19 := HC.out.f1 d1
              go_simp
              exact HK.out _ _ ⟨fun s => if s = 20 then v else u s, by simp [e19], { HC.out with f2 := fun _ => rfl, f23 := fun e => by { obtain ⟨-, h3⟩ := HC.out.f23 e; exact ⟨rfl, h3⟩ } }⟩
            · intro L a' x hL hc hI K' hK
              obtain ⟨u, rfl, hC⟩ := hI
              have HK := hide hK
              have HC := hide hC
              clear hK hC hc
              go_simp
              exact HK.out _ _ ⟨fun s => if s = 21 then .int .i64 (A.length : Nat) else u s, rfl, { HC.out with f3 := fun _ => rfl }⟩
            · intro L a' x hL hc hI K' hK
              obtain ⟨u, rfl, hC⟩ := hI
              have d3 : L 3 = true := hc ⟨3, .data⟩ (by simp) rfl
              have HK := hide hK
              have HC := hide hC
              clear hK hC hc
              have e21 := HC.out.f3 d3
              go_simp
              go_at_call 27
              refine (keep_source (A.length : Nat) x).mono ?_
              rintro e y ⟨⟨s', rfl⟩, hb⟩
              exact HK.out _ _ ⟨fun s => if s = 22 then .agg #[.string ⟨#[65, 66]⟩, .string s', .string ⟨#[48, 48]⟩, .string ⟨#[66, 72, 90]⟩] else u s, by simp [e21], { (HC.out.rolls hgB hgl (HC.out.src.keep hb) (Rolls.of_below hb)) with f4 := fun _ => ⟨s', rfl⟩ }⟩
            · intro L a' x hL hc hI K' hK
              obtain ⟨u, rfl, hC⟩ := hI
              have HK := hide hK
              have HC := hide hC
              clear hK hC hc
              go_simp
              exact HK.out _ _ ⟨fun s => if s = 23 then .int .i64 t else u s, rfl, { HC.out with f5 := fun _ => rfl }⟩
            · intro L a' x hL hc hI K' hK
              obtain ⟨u, rfl, hC⟩ := hI
              have HK := hide hK
              have HC := hide hC
              clear hK hC hc
              go_simp
              exact HK.out _ _ ⟨fun s => if s = 24 then .int .i64 n else u s, rfl, { HC.out with f6 := fun _ => rfl }⟩
            · intro L a' x hL hc hI K' hK
              obtain ⟨u, rfl, hC⟩ := hI
              have d6 : L 6 = true := hc ⟨6, .data⟩ (by simp) rfl
              have HK := hide hK
              have HC := hide hC
              clear hK hC hc
              have e24 := HC.out.f6 d6
              have hw : IntKind.i64.wrap (10 * n) = 10 * n := by rw [IntKind.wrap_i64]; omega
              go_simp
              exact HK.out _ _ ⟨fun s => if s = 25 then .int .i64 (10 * n) else u s, by simp [e24, hw], { HC.out with f7 := fun _ => rfl }⟩
            · intro L a' x hL hc hI K' hK
              obtain ⟨u, rfl, hC⟩ := hI
              have d5 : L 5 = true := hc ⟨5, .data⟩ (by simp) rfl
              have d7 : L 7 = true := hc ⟨7, .data⟩ (by simp) rfl
              have HK := hide hK
              have HC := hide hC
              clear hK hC hc
              have e23 := HC.out.f5 d5
              have e25 := HC.out.f7 d7
              have hw : IntKind.i64.wrap (t + 10 * n) = t + 10 * n := by rw [IntKind.wrap_i64]; omega
              go_simp
              exact HK.out _ _ ⟨fun s => if s = 26 then .int .i64 (t + 10 * n) else u s, by simp [e23, e25, hw], { HC.out with f8 := fun _ => rfl }⟩
            · intro L a' x hL hc hI K' hK
              obtain ⟨u, rfl, hC⟩ := hI
              have HK := hide hK
              have HC := hide hC
              clear hK hC hc
              go_simp
              exact HK.out _ _ ⟨fun s => if s = 27 then .int .i64 t else u s, rfl, { HC.out with f9 := fun _ => rfl }⟩
            · intro L a' x hL hc hI K' hK
              obtain ⟨u, rfl, hC⟩ := hI
              have HK := hide hK
              have HC := hide hC
              clear hK hC hc
              go_simp
              exact HK.out _ _ ⟨fun s => if s = 28 then .int .i64 n else u s, rfl, { HC.out with f10 := fun _ => rfl }⟩
            · intro L a' x hL hc hI K' hK
              obtain ⟨u, rfl, hC⟩ := hI
              have d10 : L 10 = true := hc ⟨10, .data⟩ (by simp) rfl
              have HK := hide hK
              have HC := hide hC
              clear hK hC hc
              have e28 := HC.out.f10 d10
              have hw : IntKind.i64.wrap (10 * n) = 10 * n := by rw [IntKind.wrap_i64]; omega
              go_simp
              exact HK.out _ _ ⟨fun s => if s = 29 then .int .i64 (10 * n) else u s, by simp [e28, hw], { HC.out with f11 := fun _ => rfl }⟩
            · intro L a' x hL hc hI K' hK
              obtain ⟨u, rfl, hC⟩ := hI
              have d9 : L 9 = true := hc ⟨9, .data⟩ (by simp) rfl
              have d11 : L 11 = true := hc ⟨11, .data⟩ (by simp) rfl
              have HK := hide hK
              have HC := hide hC
              clear hK hC hc
              have e27 := HC.out.f9 d9
              have e29 := HC.out.f11 d11
              have hw : IntKind.i64.wrap (t + 10 * n) = t + 10 * n := by rw [IntKind.wrap_i64]; omega
              go_simp
              exact HK.out _ _ ⟨fun s => if s = 30 then .int .i64 (t + 10 * n) else u s, by simp [e27, e29, hw], { HC.out with f12 := fun _ => rfl }⟩
            · intro L a' x hL hc hI K' hK
              obtain ⟨u, rfl, hC⟩ := hI
              have HK := hide hK
              have HC := hide hC
              clear hK hC hc
              go_simp
              exact HK.out _ _ ⟨fun s => if s = 31 then .int .i64 t else u s, rfl, { HC.out with f13 := fun _ => rfl }⟩
            · intro L a' x hL hc hI K' hK
              obtain ⟨u, rfl, hC⟩ := hI
              have HK := hide hK
              have HC := hide hC
              clear hK hC hc
              go_simp
              exact HK.out _ _ ⟨fun s => if s = 32 then .int .i64 n else u s, rfl, { HC.out with f14 := fun _ => rfl }⟩
            · intro L a' x hL hc hI K' hK
              obtain ⟨u, rfl, hC⟩ := hI
              have d14 : L 14 = true := hc ⟨14, .data⟩ (by simp) rfl
              have HK := hide hK
              have HC := hide hC
              clear hK hC hc
              have e32 := HC.out.f14 d14
              have hw : IntKind.i64.wrap (10 * n) = 10 * n := by rw [IntKind.wrap_i64]; omega
              go_simp
              exact HK.out _ _ ⟨fun s => if s = 33 then .int .i64 (10 * n) else u s, by simp [e32, hw], { HC.out with f15 := fun _ => rfl }⟩
            · intro L a' x hL hc hI K' hK
              obtain ⟨u, rfl, hC⟩ := hI
              have d13 : L 13 = true := hc ⟨13, .data⟩ (by simp) rfl
              have d15 : L 15 = true := hc ⟨15, .data⟩ (by simp) rfl
              have HK := hide hK
              have HC := hide hC
              clear hK hC hc
              have e31 := HC.out.f13 d13
              have e33 := HC.out.f15 d15
              have hw : IntKind.i64.wrap (t + 10 * n) = t + 10 * n := by rw [IntKind.wrap_i64]; omega
              go_simp
              exact HK.out _ _ ⟨fun s => if s = 34 then .int .i64 (t + 10 * n) else u s, by simp [e31, e33, hw], { HC.out with f16 := fun _ => rfl }⟩
            · intro L a' x hL hc hI K' hK
              obtain ⟨u, rfl, hC⟩ := hI
              have HK := hide hK
              have HC := hide hC
              clear hK hC hc
              go_simp
              exact HK.out _ _ ⟨fun s => if s = 35 then .pointer (some ⟨g, 0, none⟩) else u s, rfl, { HC.out with f17 := fun _ => rfl }⟩
            · intro L a' x hL hc hI K' hK
              obtain ⟨u, rfl, hC⟩ := hI
              have d17 : L 17 = true := hc ⟨17, .data⟩ (by simp) rfl
              have d4 : L 4 = true := hc ⟨4, .chain⟩ (by simp) rfl
              have HK := hide hK
              have HC := hide hC
              clear hK hC hc
              have e35 := HC.out.f17 d17
              go_simp
              go_at_call 20
              refine (keep_n W a len cap g 3 ⟨by omega, by omega⟩ x HC.out.src).mono ?_
              rintro e y ⟨⟨z, rfl, z0, z1⟩, hd1, hr1⟩
              exact HK.out _ _ ⟨fun s => if s = 36 then .int .i64 z else u s, by simp [e35], { (HC.out.rolls hgB hgl hd1 hr1) with f18 := fun _ => ⟨z, rfl, z0, by omega⟩ }⟩
            · intro L a' x hL hc hI K' hK
              obtain ⟨u, rfl, hC⟩ := hI
              have d16 : L 16 = true := hc ⟨16, .data⟩ (by simp) rfl
              have d18 : L 18 = true := hc ⟨18, .data⟩ (by simp) rfl
              have HK := hide hK
              have HC := hide hC
              clear hK hC hc
              have e34 := HC.out.f16 d16
              obtain ⟨z, e36, z0, z1⟩ := HC.out.f18 d18
              have hw : IntKind.i64.wrap (t + 10 * n + z) = t + 10 * n + z := by rw [IntKind.wrap_i64]; omega
              go_simp
              exact HK.out _ _ ⟨fun s => if s = 37 then .int .i64 (t + 10 * n + z) else u s, by simp [e34, e36, hw], { HC.out with f19 := fun _ => ⟨z, rfl, z0, z1⟩ }⟩
            · intro L a' x hL hc hI K' hK
              obtain ⟨u, rfl, hC⟩ := hI
              have HK := hide hK
              have HC := hide hC
              clear hK hC hc
              go_simp
              exact HK.out _ _ ⟨fun s => if s = 38 then .int .i64 n else u s, rfl, { HC.out with f20 := fun _ => rfl }⟩
            · intro L a' x hL hc hI K' hK
              obtain ⟨u, rfl, hC⟩ := hI
              have d4 : L 4 = true := hc ⟨4, .data⟩ (by simp) rfl
              have d8 : L 8 = true := hc ⟨8, .data⟩ (by simp) rfl
              have d12 : L 12 = true := hc ⟨12, .data⟩ (by simp) rfl
              have d19 : L 19 = true := hc ⟨19, .data⟩ (by simp) rfl
              have d20 : L 20 = true := hc ⟨20, .data⟩ (by simp) rfl
              have HK := hide hK
              have HC := hide hC
              clear hK hC hc
              obtain ⟨s', e22⟩ := HC.out.f4 d4
              have e26 := HC.out.f8 d8
              have e30 := HC.out.f12 d12
              obtain ⟨z, e37, z0, z1⟩ := HC.out.f19 d19
              have e38 := HC.out.f20 d20
              go_simp
              exact HK.out _ _ ⟨fun s => if s = 39 then .agg #[.string ⟨#[65, 66]⟩, .string s', .string ⟨#[48, 48]⟩, .string ⟨#[66, 72, 90]⟩, .int .i64 (t + 10 * n), .int .i64 (t + 10 * n), .int .i64 (t + 10 * n + z), .int .i64 n, .int .i64 0] else u s, by simp [e22, e26, e30, e37, e38], { HC.out with f21 := fun _ => ⟨⟨s', t + 10 * n, t + 10 * n, t + 10 * n + z, n⟩, ⟨rfl, rfl, by show t + 10 * n ≤ t + 10 * n + z; omega, by show t + 10 * n + z ≤ t + 10 * n + 2; omega, rfl⟩, rfl⟩ }⟩
            · intro L a' x hL hc hI K' hK
              obtain ⟨u, rfl, hC⟩ := hI
              have d21 : L 21 = true := hc ⟨21, .data⟩ (by simp) rfl
              have HK := hide hK
              have HC := hide hC
              clear hK hC hc
              obtain ⟨k, hk, e39⟩ := HC.out.f21 d21
              have hlt := HC.out.src.lt
              go_simp
              exact HK.out _ _ ⟨fun s => if s = 40 then .slice (some ⟨x.heap.size, 0, none⟩) 1 1 else u s, by simp [e39], { (HC.out.rolls hgB hgl (HC.out.src.alloc _) (Rolls.of_below (below1 _))) with f22 := fun _ => ⟨k, x.heap.size, hk, rfl, by omega, fun _ => heap_alloc_new _ _⟩ }⟩
            · intro L a' x hL hc hI K' hK
              obtain ⟨u, rfl, hC⟩ := hI
              have d2 : L 2 = true := hc ⟨2, .data⟩ (by simp) rfl
              have d22 : L 22 = true := hc ⟨22, .data⟩ (by simp) rfl
              have d18 : L 18 = true := hc ⟨18, .chain⟩ (by simp) rfl
              have HK := hide hK
              have HC := hide hC
              clear hK hC hc
              have e20 := HC.out.f2 d2
              obtain ⟨k, b, hk, e40, hbg, hb⟩ := HC.out.f22 d22
              have h26 : L 26 = false := by
                cases h : L 26
                · rfl
                · have := (HC.out.f26 h).1; rw [hL] at this; cases this
              have hg5x := (Array.getElem?_eq_some_iff.1 (HC.out.b5 h26)).1
              have hge := owns_ge (HC.out.own hL)
              refine step_append_lies x (by rfl) (.tmp 20) (.tmp 40) 31 (by rfl) (g5 + 1) 30 i0 _ 9 104 Try.underlying31 hi0 hz0 hz1 hz2 rfl (by decide) v A.length (pkVals A) e20 (HC.out.own hL) ⟨b, 0, none⟩ 1 1 [.string ⟨#[65, 66]⟩, .string k.s, .string ⟨#[48, 48]⟩, .string ⟨#[66, 72, 90]⟩, .int .i64 k.t1, .int .i64 k.t2, .int .i64 k.t3, .int .i64 k.am, .int .i64 0] e40 rfl (World.news_of_block (hb hL)) (by simp [Value.oneCell']) (by omega) (by unfold maxLen; omega) (by omega) (by omega) _ rfl ?_
              intro gg cg y hown hgrow hat hlt
              have hbl : Below (g5 + 1) x y := (Below.refl _ x).grown hgrow (by omega) hge
              have hown2 : y.ownsRow (g5 + 1) 30 9 (.slice (some ⟨gg, 0, none⟩) (A.length + 1) cg) (A.length + 1) (pkVals (A ++ [k])) := by rw [pkVals_append]; exact hown
              exact HK.out _ _ ⟨fun s => if s = 41 then .slice (some ⟨gg, 0, none⟩) (A.length + 1) cg else u s, rfl, { HC.out with f23 := fun _ => ⟨d2, k, hk, hown2⟩, src := HC.out.src.keepB hbl (by omega) (by omega), rol := ⟨Nat.le_trans HC.out.rol.size hbl.size, fun k hk hg => (hbl.block k (by omega)).trans (HC.out.rol.block k hk hg)⟩, b4 := (hbl.block _ (by omega)).trans HC.out.b4, b5 := fun e => (hbl.block g5 (by omega)).trans (HC.out.b5 e), own := fun e => Bool.noConfusion e, f22 := fun e => ⟨k, b, hk, e40, hbg, fun e => Bool.noConfusion e⟩, f26 := fun e => Bool.noConfusion (h26.symm.trans e) }⟩
            · intro L a' x hL hc hI K' hK
              obtain ⟨u, rfl, hC⟩ := hI
              have HK := hide hK
              have HC := hide hC
              clear hK hC hc
              go_simp
              exact HK.out _ _ ⟨fun s => if s = 42 then .pointer (some ⟨g5, 9, none⟩) else u s, rfl, { HC.out with f24 := fun _ => rfl }⟩
            · intro L a' x hL hc hI K' hK
              obtain ⟨u, rfl, hC⟩ := hI
              have d24 : L 24 = true := hc ⟨24, .data⟩ (by simp) rfl
              have HK := hide hK
              have HC := hide hC
              clear hK hC hc
              have e42 := HC.out.f24 d24
              go_simp
              exact HK.out _ _ ⟨fun s => if s = 43 then .pointer (some ⟨g5, 9, none⟩) else u s, by simp [e42], { HC.out with f25 := fun _ => rfl }⟩
            · intro L a' x hL hc hI K' hK
              obtain ⟨u, rfl, hC⟩ := hI
              have d25 : L 25 = true := hc ⟨25, .data⟩ (by simp) rfl
              have d23 : L 23 = true := hc ⟨23, .data⟩ (by simp) rfl
              have HK := hide hK
              have HC := hide hC
              clear hK hC hc
              have e43 := HC.out.f25 d25
              obtain ⟨d2, k, hk, hown⟩ := HC.out.f23 d23
              obtain ⟨gg, cg, e41, hgg, -⟩ := hown.form (by omega)
              have hown := hide hown
              have m0 : x.cell? ⟨g5, 9, none⟩ = some v := boxed_at (HC.out.b5 hL) rfl
              have mf := frozen_of_row x g5 9 _ _ (HC.out.b5 hL)
              have HBL := hide (show Below g5 x (x.setCell ⟨g5, 9, none⟩ (.slice (some ⟨gg, 0, none⟩) (A.length + 1) cg)) from Below.setCell (Below.refl g5 x) (Nat.le_refl g5) _)
              go_simp
              exact HK.out _ _ ⟨u, by simp [e43, e41], { HC.out with src := HC.out.src.keepB HBL.out (by omega) (by omega), rol := ⟨Nat.le_trans HC.out.rol.size HBL.out.size, fun k hk hg => (HBL.out.block k (by omega)).trans (HC.out.rol.block k hk hg)⟩, b4 := (HBL.out.block _ (by omega)).trans HC.out.b4, b5 := fun e => Bool.noConfusion e, own := fun e => Bool.noConfusion (e.symm.trans d23), f22 := fun e => by { obtain ⟨k, b, h0, h1, h2, -⟩ := HC.out.f22 e; exact ⟨k, b, h0, h1, h2, fun e => Bool.noConfusion (e.symm.trans d23)⟩ }, f23 := fun _ => ⟨d2, k, hk, owns_heap hown.out fun k hk _ => Below.heap_setCell _ _ _ _ (show k ≠ g5 by omega)⟩, f26 := fun _ => ⟨d23, by rw [e41]; exact (setCell_row (HC.out.b5 hL) _).trans rfl⟩ }⟩
          case hd =>
            rintro L a' x hall ⟨u, rfl, hC⟩
            have HC := hide hC
            obtain ⟨-, k, hk, hown⟩ := hC.f23 (hall 23 (by decide))
            have g5n := (hC.f26 (hall 26 (by decide))).2
            clear hC hall
            go_wp2_with fail
            go_meet
            exact ⟨rfl, k, u 41, hk, g5n, HC.out.b4, hown, HC.out.src, HC.out.rol⟩
        case rest =>
          obtain ⟨rfl, k, v', hk, G5, G4, HO, HD, HR⟩ := hcut
          have hA3 : A.length ≤ 3 := by omega
          go_wp2
          go_roundg (4 - (A.length + 1))
          case measure => omega
          case rel =>
            exact ⟨A ++ [k], v', by simp, by simp, by simp; omega, hide (fun k' hk' => by rcases List.mem_append.1 hk' with h | h; exact HOK.out k' h; simp at h; subst h; exact hk), G5, G4, hide (by simpa using HO.out), HD, HR⟩
      · have dz : decide ((A.length : Int) < 1 + z) = false := by simp; omega
        rw [dz]
        clear dz
        go_wp2_with fail
        go_meet
        case rel => exact ⟨A, v, by omega, hA4, HOK, G5, G4, HO, HD, HR⟩
  case rest =>
    obtain ⟨A, v, hA1, hA4, HOK, G5, G4, HO, HD, HR⟩ := hcut
    generalize wc = w2 at G5 G4 HO HD HR ⊢
    obtain ⟨gg, cg, rfl, hgg, hgl2⟩ := HO.out.form (by omega)
    obtain ⟨k0, A', hA'⟩ : ∃ k0 A', A = k0 :: A' := by
      cases A with
      | nil => simp at hA1
      | cons k0 A' => exact ⟨k0, A', rfl⟩
    have HK0 := hide (HOK.out k0 (by rw [hA']; simp))
    have hpk := pk_cells HO.out
    rw [hA'] at hpk
    have HA' := hide hA'
    have hra : w2.rangeAt gg 0 [.string ⟨#[65, 66]⟩, .string k0.s, .string ⟨#[48, 48]⟩, .string ⟨#[66, 72, 90]⟩, .int .i64 k0.t1, .int .i64 k0.t2, .int .i64 k0.t3, .int .i64 k0.am, .int .i64 0] := fun j u hj => by
      rw [Nat.zero_add]
      exact hpk j u (by
        rw [show pkVals (k0 :: A') = [.string ⟨#[65, 66]⟩, .string k0.s, .string ⟨#[48, 48]⟩, .string ⟨#[66, 72, 90]⟩, .int .i64 k0.t1, .int .i64 k0.t2, .int .i64 k0.t3, .int .i64 k0.am, .int .i64 0] ++ pkVals A' from rfl, List.getElem?_append_left (List.getElem?_eq_some_iff.1 hj).1]
        exact hj)
    have HRA := hide hra
    have c9 := boxed_at G5.out (i := 9) rfl
    have hA0 : (0 : Int) < (A.length : Int) := by omega
    clear hpk hra hA'
    go_upto_region 8 with (first
      | (refine wpList_load_mid (by rfl) 30 (.tmp 47) (by rfl) gg 0 (by rfl) [.string ⟨#[65, 66]⟩, .string k0.s, .string ⟨#[48, 48]⟩, .string ⟨#[66, 72, 90]⟩, .int .i64 k0.t1, .int .i64 k0.t2, .int .i64 k0.t3, .int .i64 k0.am, .int .i64 0] _ HRA.out Try.underlying30 rfl (by kernel_rfl) ?_)
      | (refine wpList_store_mid (by rfl) 30 (.tmp 49) (.tmp 48) (by rfl) g5 0 #[.string ⟨#[65, 66]⟩, .string k0.s, .string ⟨#[48, 48]⟩, .string ⟨#[66, 72, 90]⟩, .int .i64 k0.t1, .int .i64 k0.t2, .int .i64 k0.t3, .int .i64 k0.am, .int .i64 0] (by rfl) (by rfl) (there_row G5.out 0 9 (by simp)) (by kernel_rfl) (by simp [Value.oneCell']) ?_; (change wpList _ _ _ _ _ (w2.setCells g5 0 [.string ⟨#[65, 66]⟩, .string k0.s, .string ⟨#[48, 48]⟩, .string ⟨#[66, 72, 90]⟩, .int .i64 k0.t1, .int .i64 k0.t2, .int .i64 k0.t3, .int .i64 k0.am, .int .i64 0]))))
    have G5 := hide (show (w2.setCells g5 0 [.string ⟨#[65, 66]⟩, .string k0.s, .string ⟨#[48, 48]⟩, .string ⟨#[66, 72, 90]⟩, .int .i64 k0.t1, .int .i64 k0.t2, .int .i64 k0.t3, .int .i64 k0.am, .int .i64 0]).heap[g5]? = some (.cells #[.string ⟨#[65, 66]⟩, .string k0.s, .string ⟨#[48, 48]⟩, .string ⟨#[66, 72, 90]⟩, .int .i64 k0.t1, .int .i64 k0.t2, .int .i64 k0.t3, .int .i64 k0.am, .int .i64 0, .slice (some ⟨gg, 0, none⟩) A.length cg, .int .i64 0, .int .i64 0, .int .i64 0, .int .i64 0, .int .i64 0, .int .i64 0, .int .i64 0, .int .i64 0, .int .i64 0, .int .i64 0, .int .i64 0, .int .i64 0, .int .i64 0, .int .i64 0, .int .i64 0] 43 (0, 0)) from (sets_heap [.string ⟨#[65, 66]⟩, .string k0.s, .string ⟨#[48, 48]⟩, .string ⟨#[66, 72, 90]⟩, .int .i64 k0.t1, .int .i64 k0.t2, .int .i64 k0.t3, .int .i64 k0.am, .int .i64 0] w2 _ 0 G5.out).trans (by kernel_rfl))
    have HBL := hide (sets_below (g := g5) [.string ⟨#[65, 66]⟩, .string k0.s, .string ⟨#[48, 48]⟩, .string ⟨#[66, 72, 90]⟩, .int .i64 k0.t1, .int .i64 k0.t2, .int .i64 k0.t3, .int .i64 k0.am, .int .i64 0] w2 0)
    have HOT := hide (fun k (hk : k ≠ g5) => sets_other hk [.string ⟨#[65, 66]⟩, .string k0.s, .string ⟨#[48, 48]⟩, .string ⟨#[66, 72, 90]⟩, .int .i64 k0.t1, .int .i64 k0.t2, .int .i64 k0.t3, .int .i64 k0.am, .int .i64 0] w2 0)
    clear c9 HRA
    generalize w2.setCells g5 0 [.string ⟨#[65, 66]⟩, .string k0.s, .string ⟨#[48, 48]⟩, .string ⟨#[66, 72, 90]⟩, .int .i64 k0.t1, .int .i64 k0.t2, .int .i64 k0.t3, .int .i64 k0.am, .int .i64 0] = w3 at G5 HBL HOT ⊢
    have G4 := hide ((HOT.out _ (by omega)).trans G4.out)
    have HO := hide (owns_heap HO.out fun k h1 h2 => HOT.out k (by omega))
    have HD := hide (HD.out.keepB HBL.out (by omega) (by omega))
    have HR := hide (show Rolls g w w3 from ⟨Nat.le_trans HR.out.size HBL.out.size, fun k hk hg => (HBL.out.block k (by omega)).trans (HR.out.block k hk hg)⟩)
    clear HBL HOT
    simp only [Act.put]
    have HWB := hide (show w.heap.size < w3.heap.size from Nat.lt_trans hgl (Array.getElem?_eq_some_iff.1 G5.out).1)
    go_cut [] from 50 to 62 (fun wx => ∃ x y z tm mf : Int, (-20 ≤ x ∧ x ≤ 20) ∧ (-20 ≤ y ∧ y ≤ 20) ∧ (0 ≤ z ∧ z ≤ 20) ∧ (t - 39 ≤ tm ∧ tm ≤ t) ∧ (0 ≤ mf ∧ mf ≤ 500) ∧ Hid (wx.heap[g5]? = some (.cells #[.string ⟨#[65, 66]⟩, .string k0.s, .string ⟨#[48, 48]⟩, .string ⟨#[66, 72, 90]⟩, .int .i64 k0.t1, .int .i64 k0.t2, .int .i64 k0.t3, .int .i64 k0.am, .int .i64 0, .slice (some ⟨gg, 0, none⟩) A.length cg, .int .i64 x, .int .i64 y, .int .i64 z, .int .i64 tm, .int .i64 mf, .int .i64 0, .int .i64 0, .int .i64 0, .int .i64 0, .int .i64 0, .int .i64 0, .int .i64 0, .int .i64 0, .int .i64 0, .int .i64 0] 43 (0, 0))) ∧ Hid (wx.heap[w.heap.size]? = some (.cells #[.string ⟨#[]⟩, .string ⟨#[]⟩, .string ⟨#[]⟩, .string ⟨#[]⟩, .int .i64 0, .int .i64 0, .int .i64 0, .int .i64 0, .int .i64 0, .slice none 0 0, .int .i64 0, .int .i64 0, .int .i64 0, .int .i64 0, .int .i64 0, .int .i64 0, .int .i64 0, .int .i64 0, .int .i64 0, .int .i64 0, .int .i64 0, .int .i64 0, .int .i64 0, .int .i64 0, .int .i64 0] 43 (0, 0))) ∧ Hid (wx.ownsRow (g5 + 1) 30 9 (.slice (some ⟨gg, 0, none⟩) A.length cg) A.length (pkVals A)) ∧ Hid (Src W a len cap g wx) ∧ Hid (Rolls g w wx))
    case first =>
      go_wp2_with (first
        | (go_at_call 28; (with_reducible refine (keep_place 20 ⟨by omega, by omega⟩ _ HD.out).mono ?_); rintro e w4 ⟨⟨x, y, z, rfl, hx, hy, hz⟩, hd1, hr1⟩; (have HD4 := hide hd1); (have G44 := hide (hr1.blk G4.out (by omega))); (have G54 := hide (hr1.blk G5.out (by omega))); (have HR4 := hide (HR.out.trans hr1)); (have HO4 := hide (owns_heap HO.out fun k h1 h2 => hr1.block k h2 (by omega))); clear hd1 hr1)
        | (go_at_call 20; (with_reducible refine (keep_n W a len cap g 40 ?_ _ HD4.out).mono ?_); (focus omega); rintro e w5 ⟨⟨q, rfl, q0, q1⟩, hd1, hr1⟩; (have HD5 := hide hd1); (have G45 := hide (hr1.blk G44.out (by omega))); (have G55 := hide (hr1.blk G54.out (by omega))); (have HR5 := hide (HR4.out.trans hr1)); (have HO5 := hide (owns_heap HO4.out fun k h1 h2 => hr1.block k h2 (by omega))); clear hd1 hr1)
        | (go_at_call 26; (with_reducible refine (keep_pick2 (fun x => decide (0 ≤ x ∧ x ≤ 500)) _ 4 rfl (by omega) rfl _ (HD5.out.alloc _) (heap_alloc_new w5 (.cells #[.int .i64 0, .int .i64 0, .int .i64 5, .int .i64 500] 3)) (by have := HD5.out.lt; omega)).mono ?_); rintro e w6 ⟨⟨mf, rfl, hmf⟩, hd1, hr1⟩; (have hmf : 0 ≤ mf ∧ mf ≤ 500 := (by simpa using hmf)); (have HB6 := hide ((Rolls.of_below (g := g) (below1 (w := w5) (.cells #[.int .i64 0, .int .i64 0, .int .i64 5, .int .i64 500] 3))).trans hr1)); (have HD6 := hide hd1); (have G46 := hide (HB6.out.blk G45.out (by omega))); (have G56 := hide (HB6.out.blk G55.out (by omega))); (have HR6 := hide (HR5.out.trans HB6.out)); (have HO6 := hide (owns_heap HO5.out fun k h1 h2 => HB6.out.block k h2 (by omega))); clear hd1 hr1 HB6)
        | (refine wpList_store_mid (by rfl) 37 (.tmp 61) (.tmp 59) (by rfl) g5 10 #[.int .i64 x, .int .i64 y, .int .i64 z, .int .i64 (t - q), .int .i64 mf, .int .i64 0, .int .i64 0, .int .i64 0, .int .i64 0, .int .i64 0, .int .i64 0, .int .i64 0] (by rfl) (by rfl) (there_row G56.out 10 12 (by simp)) (by kernel_rfl) (by simp [Value.oneCell']) ?_; (change wpList _ _ _ _ _ (w6.setCells g5 10 [.int .i64 x, .int .i64 y, .int .i64 z, .int .i64 (t - q), .int .i64 mf, .int .i64 0, .int .i64 0, .int .i64 0, .int .i64 0, .int .i64 0, .int .i64 0, .int .i64 0]))))
      simp only [Act.put]
      go_meet
      exact ⟨x, y, z, t - q, mf, by omega, by omega, by omega, by omega, by omega, hide ((sets_heap [.int .i64 x, .int .i64 y, .int .i64 z, .int .i64 (t - q), .int .i64 mf, .int .i64 0, .int .i64 0, .int .i64 0, .int .i64 0, .int .i64 0, .int .i64 0, .int .i64 0] w6 _ 10 G56.out).trans (by kernel_rfl)), hide ((sets_other (by omega) _ _ _).trans G46.out), hide (owns_heap HO6.out fun k h1 h2 => sets_other (by omega) _ _ _), hide (HD6.out.keepB (sets_below (g := g5) _ w6 10) (by omega) (by omega)), hide (HR6.out.sets _ _ (by omega))⟩
    case rest =>
      obtain ⟨x, y, z, tm, mf, ⟨x0, x1⟩, ⟨y0, y1⟩, ⟨z0, z1⟩, ⟨tm0, tm1⟩, ⟨mf0, mf1⟩, G5, G4, HO, HD, HR⟩ := hcut
      clear HWB
      generalize wc = w7 at G5 G4 HO HD HR ⊢
      have hr3 : w7.rangeAt g5 10 [.int .i64 x, .int .i64 y, .int .i64 z] := range3 G5.out rfl rfl rfl
      have HR3 := hide hr3
      clear hr3
      go_upto_region 9 with fail
      go_cut [] from 62 to 74 (fun wx => Hid (wx.heap[g5]? = some (.cells #[.string ⟨#[65, 66]⟩, .string k0.s, .string ⟨#[48, 48]⟩, .string ⟨#[66, 72, 90]⟩, .int .i64 k0.t1, .int .i64 k0.t2, .int .i64 k0.t3, .int .i64 k0.am, .int .i64 0, .slice (some ⟨gg, 0, none⟩) A.length cg, .int .i64 x, .int .i64 y, .int .i64 z, .int .i64 tm, .int .i64 mf, .int .i64 0, .int .i64 x, .int .i64 y, .int .i64 z, .int .i64 x, .int .i64 y, .int .i64 z, .int .i64 0, .int .i64 0, .int .i64 0] 43 (0, 0))) ∧ Hid (wx.heap[w.heap.size]? = some (.cells #[.string ⟨#[]⟩, .string ⟨#[]⟩, .string ⟨#[]⟩, .string ⟨#[]⟩, .int .i64 0, .int .i64 0, .int .i64 0, .int .i64 0, .int .i64 0, .slice none 0 0, .int .i64 0, .int .i64 0, .int .i64 0, .int .i64 0, .int .i64 0, .int .i64 0, .int .i64 0, .int .i64 0, .int .i64 0, .int .i64 0, .int .i64 0, .int .i64 0, .int .i64 0, .int .i64 0, .int .i64 0] 43 (0, 0))) ∧ Hid (wx.ownsRow (g5 + 1) 30 9 (.slice (some ⟨gg, 0, none⟩) A.length cg) A.length (pkVals A)) ∧ Hid (Src W a len cap g wx) ∧ Hid (Rolls g w wx))
      case first =>
        go_wp2_with (first
          | (refine wpList_load_mid (by rfl) 33 (.tmp 64) (by rfl) g5 10 (by rfl) [.int .i64 x, .int .i64 y, .int .i64 z] _ HR3.out Try.underlying33 rfl (by kernel_rfl) ?_)
          | (refine wpList_load_mid (by rfl) 33 (.tmp 68) (by rfl) g5 10 (by rfl) [.int .i64 x, .int .i64 y, .int .i64 z] _ HR3.out Try.underlying33 rfl (by kernel_rfl) ?_)
          | (refine wpList_store_mid (by rfl) 35 (.tmp 73) (.tmp 70) (by rfl) g5 16 #[.int .i64 x, .int .i64 y, .int .i64 z, .int .i64 x, .int .i64 y, .int .i64 z] (by rfl) (by rfl) (there_row G5.out 16 6 (by simp)) (by kernel_rfl) (by simp [Value.oneCell']) ?_; (change wpList _ _ _ _ _ (w7.setCells g5 16 [.int .i64 x, .int .i64 y, .int .i64 z, .int .i64 x, .int .i64 y, .int .i64 z]))))
        simp only [Act.put]
        go_meet
        exact ⟨hide ((sets_heap [.int .i64 x, .int .i64 y, .int .i64 z, .int .i64 x, .int .i64 y, .int .i64 z] w7 _ 16 G5.out).trans (by kernel_rfl)), hide ((sets_other (by omega) _ _ _).trans G4.out), hide (owns_heap HO.out fun k h1 h2 => sets_other (by omega) _ _ _), hide (HD.out.keepB (sets_below (g := g5) _ w7 16) (by omega) (by omega)), hide (HR.out.sets _ _ (by omega))⟩
      case rest =>
        obtain ⟨G5, G4, HO, HD, HR⟩ := hcut
        clear HR3
        generalize wc = w8 at G5 G4 HO HD HR ⊢
        go_upto_region 10 with fail
        go_cut [] from 74 to 78 (fun wx => ∃ ct : Int, (0 ≤ ct ∧ ct ≤ 2) ∧ Hid (wx.heap[g5]? = some (.cells #[.string ⟨#[65, 66]⟩, .string k0.s, .string ⟨#[48, 48]⟩, .string ⟨#[66, 72, 90]⟩, .int .i64 k0.t1, .int .i64 k0.t2, .int .i64 k0.t3, .int .i64 k0.am, .int .i64 0, .slice (some ⟨gg, 0, none⟩) A.length cg, .int .i64 x, .int .i64 y, .int .i64 z, .int .i64 tm, .int .i64 mf, .int .i64 0, .int .i64 x, .int .i64 y, .int .i64 z, .int .i64 x, .int .i64 y, .int .i64 z, .int .i64 0, .int .i64 0, .int .i64 ct] 43 (0, 0))) ∧ Hid (wx.heap[w.heap.size]? = some (.cells #[.string ⟨#[]⟩, .string ⟨#[]⟩, .string ⟨#[]⟩, .string ⟨#[]⟩, .int .i64 0, .int .i64 0, .int .i64 0, .int .i64 0, .int .i64 0, .slice none 0 0, .int .i64 0, .int .i64 0, .int .i64 0, .int .i64 0, .int .i64 0, .int .i64 0, .int .i64 0, .int .i64 0, .int .i64 0, .int .i64 0, .int .i64 0, .int .i64 0, .int .i64 0, .int .i64 0, .int .i64 0] 43 (0, 0))) ∧ Hid (wx.ownsRow (g5 + 1) 30 9 (.slice (some ⟨gg, 0, none⟩) A.length cg) A.length (pkVals A)) ∧ Hid (Src W a len cap g wx) ∧ Hid (Rolls g w wx))
        case first =>
          go_wp2_with (first
            | (go_at_call 20; (with_reducible refine (keep_n W a len cap g 3 ?_ _ HD.out).mono ?_); (focus omega); rintro e w9 ⟨⟨ct, rfl, q0, q1⟩, hd1, hr1⟩; (have HD9 := hide hd1); (have G49 := hide (hr1.blk G4.out (by omega))); (have G59 := hide (hr1.blk G5.out (by omega))); (have HR9 := hide (HR.out.trans hr1)); (have HO9 := hide (owns_heap HO.out fun k h1 h2 => hr1.block k h2 (by omega))); (have m24 := boxed_at G59.out (i := 24) rfl); (have f24 := frozen_of_row w9 g5 24 _ _ G59.out); clear hd1 hr1))
          go_meet
          exact ⟨ct, by omega, hide ((setCell_row G59.out _).trans (by kernel_rfl)), hide ((Below.heap_setCell _ _ _ _ (show w.heap.size ≠ g5 by omega)).trans G49.out), hide (owns_heap HO9.out fun k h1 h2 => Below.heap_setCell _ _ _ _ (show k ≠ g5 by omega)), hide (HD9.out.keepB (Below.setCell (Below.refl g5 w9) (p := ⟨g5, 24, none⟩) (Nat.le_refl g5) _) (by omega) (by omega)), hide (HR9.out.sets (k := g5) [.int .i64 ct] 24 (by omega))⟩
        case rest =>
          obtain ⟨ct, ⟨ct0, ct1⟩, G5, G4, HO, HD, HR⟩ := hcut
          generalize wc = w9 at G5 G4 HO HD HR ⊢
          have m24 := boxed_at G5.out (i := 24) rfl
          go_upto_if 81 with fail
          clear m24
          go_cut [] from 81 to 97 (fun wx => ∃ lo hi : Int, (0 ≤ lo ∧ lo ≤ 399) ∧ (lo ≤ hi ∧ hi ≤ lo + 59) ∧ Hid (wx.heap[g5]? = some (.cells #[.string ⟨#[65, 66]⟩, .string k0.s, .string ⟨#[48, 48]⟩, .string ⟨#[66, 72, 90]⟩, .int .i64 k0.t1, .int .i64 k0.t2, .int .i64 k0.t3, .int .i64 k0.am, .int .i64 0, .slice (some ⟨gg, 0, none⟩) A.length cg, .int .i64 x, .int .i64 y, .int .i64 z, .int .i64 tm, .int .i64 mf, .int .i64 0, .int .i64 x, .int .i64 y, .int .i64 z, .int .i64 x, .int .i64 y, .int .i64 z, .int .i64 lo, .int .i64 hi, .int .i64 ct] 43 (0, 0))) ∧ Hid (wx.heap[w.heap.size]? = some (.cells #[.string ⟨#[]⟩, .string ⟨#[]⟩, .string ⟨#[]⟩, .string ⟨#[]⟩, .int .i64 0, .int .i64 0, .int .i64 0, .int .i64 0, .int .i64 0, .slice none 0 0, .int .i64 0, .int .i64 0, .int .i64 0, .int .i64 0, .int .i64 0, .int .i64 0, .int .i64 0, .int .i64 0, .int .i64 0, .int .i64 0, .int .i64 0, .int .i64 0, .int .i64 0, .int .i64 0, .int .i64 0] 43 (0, 0))) ∧ Hid (wx.ownsRow (g5 + 1) 30 9 (.slice (some ⟨gg, 0, none⟩) A.length cg) A.length (pkVals A)) ∧ Hid (Src W a len cap g wx) ∧ Hid (Rolls g w wx))
          case first =>
            by_cases hct : 0 < ct
            · have dct : decide (0 < ct) = true := by simpa using hct
              go_upto_region 13 with (first
                | (go_at_call 20; (with_reducible refine (keep_n W a len cap g 400 ?_ _ HD.out).mono ?_); (focus omega); rintro e w11 ⟨⟨lo, rfl, q0, q1⟩, hd1, hr1⟩; (have HD := hide hd1); (have G4 := hide (hr1.blk G4.out (by omega))); (have G5 := hide (hr1.blk G5.out (by omega))); (have HR := hide (HR.out.trans hr1)); (have HO := hide (owns_heap HO.out fun k h1 h2 => hr1.block k h2 (by omega))); (have m22 := boxed_at G5.out (i := 22) rfl); (have f22 := frozen_of_row w11 g5 22 _ _ G5.out); clear hd1 hr1))
              clear m22 f22 dct
              have G5 := hide (show (w11.setCell ⟨g5, 22, none⟩ (.int .i64 lo)).heap[g5]? = some (.cells #[.string ⟨#[65, 66]⟩, .string k0.s, .string ⟨#[48, 48]⟩, .string ⟨#[66, 72, 90]⟩, .int .i64 k0.t1, .int .i64 k0.t2, .int .i64 k0.t3, .int .i64 k0.am, .int .i64 0, .slice (some ⟨gg, 0, none⟩) A.length cg, .int .i64 x, .int .i64 y, .int .i64 z, .int .i64 tm, .int .i64 mf, .int .i64 0, .int .i64 x, .int .i64 y, .int .i64 z, .int .i64 x, .int .i64 y, .int .i64 z, .int .i64 lo, .int .i64 0, .int .i64 ct] 43 (0, 0)) from (setCell_row G5.out _).trans (by kernel_rfl))
              have G4 := hide ((Below.heap_setCell w11 ⟨g5, 22, none⟩ (.int .i64 lo) _ (show w.heap.size ≠ g5 by omega)).trans G4.out)
              have HO := hide (owns_heap HO.out fun k h1 h2 => Below.heap_setCell w11 ⟨g5, 22, none⟩ (.int .i64 lo) _ (show k ≠ g5 by omega))
              have HD := hide (HD.out.keepB (Below.setCell (Below.refl g5 w11) (p := ⟨g5, 22, none⟩) (Nat.le_refl g5) (.int .i64 lo)) (by omega) (by omega))
              have HR := hide (HR.out.sets (k := g5) [.int .i64 lo] 22 (by omega))
              change Hid (Rolls g w (w11.setCell ⟨g5, 22, none⟩ (.int .i64 lo))) at HR
              generalize w11.setCell ⟨g5, 22, none⟩ (.int .i64 lo) = w12 at G5 G4 HO HD HR ⊢
              have m22 := boxed_at G5.out (i := 22) rfl
              go_region_with ((first
                | (go_at_call 20; (with_reducible refine (keep_n W a len cap g 60 ?_ _ HD.out.drew).mono ?_); (focus omega); rintro e w13 ⟨⟨q, rfl, r0, r1⟩, hd1, hr1⟩; (have HD := hide hd1); (have hr1 := (Rolls.of_below (g := g) (Below.refl w12.heap.size w12).drew).trans hr1); (have G4 := hide (hr1.blk G4.out (by omega))); (have G5 := hide (hr1.blk G5.out (by omega))); (have HR := hide (HR.out.trans hr1)); (have HO := hide (owns_heap HO.out fun k h1 h2 => hr1.block k h2 (by omega))); (have n22 := boxed_at G5.out (i := 22) rfl); (have n23 := boxed_at G5.out (i := 23) rfl); (have f23 := frozen_of_row w13 g5 23 _ _ G5.out); (have hw : IntKind.i64.wrap (lo + q) = lo + q := (by rw [IntKind.wrap_i64]; omega)); clear hd1 hr1)))
              all_goals
                go_wp2_with fail
                go_meet
                exact ⟨lo, lo + q, by omega, by omega, hide ((setCell_row G5.out _).trans (by kernel_rfl)), hide ((Below.heap_setCell _ _ _ _ (show w.heap.size ≠ g5 by omega)).trans G4.out), hide (owns_heap HO.out fun k h1 h2 => Below.heap_setCell _ _ _ _ (show k ≠ g5 by omega)), hide (HD.out.keepB (Below.setCell (Below.refl g5 w13) (p := ⟨g5, 23, none⟩) (Nat.le_refl g5) _) (by omega) (by omega)), hide (HR.out.sets (k := g5) [.int .i64 (lo + q)] 23 (by omega))⟩
            · have dct : decide (0 < ct) = false := by simpa using hct
              go_wp2_with fail
              go_meet
              exact ⟨0, 0, by omega, by omega, G5, G4, HO, HD, HR⟩
          case rest =>
            obtain ⟨lo, hi, ⟨lo0, lo1⟩, ⟨hi0, hi1⟩, G5, G4, HO, HD, HR⟩ := hcut
            generalize wc = w10 at G5 G4 HO HD HR ⊢
            go_upto_region 14 with fail
            go_cut [] from 97 to 98 (fun wx => Hid (wx.heap[w.heap.size]? = some (.cells #[.string ⟨#[65, 66]⟩, .string k0.s, .string ⟨#[48, 48]⟩, .string ⟨#[66, 72, 90]⟩, .int .i64 k0.t1, .int .i64 k0.t2, .int .i64 k0.t3, .int .i64 k0.am, .int .i64 0, .slice (some ⟨gg, 0, none⟩) A.length cg, .int .i64 x, .int .i64 y, .int .i64 z, .int .i64 tm, .int .i64 mf, .int .i64 0, .int .i64 x, .int .i64 y, .int .i64 z, .int .i64 x, .int .i64 y, .int .i64 z, .int .i64 lo, .int .i64 hi, .int .i64 ct] 43 (0, 0))) ∧ Hid (wx.ownsRow (g5 + 1) 30 9 (.slice (some ⟨gg, 0, none⟩) A.length cg) A.length (pkVals A)) ∧ Hid (Src W a len cap g wx) ∧ Hid (Rolls g w wx))
            case first =>
              go_wp2_with (first
                | (refine wpList_load_row (by rfl) 43 (.tmp 5) (by rfl) g5 (by rfl) 43 #[.string ⟨#[65, 66]⟩, .string k0.s, .string ⟨#[48, 48]⟩, .string ⟨#[66, 72, 90]⟩, .int .i64 k0.t1, .int .i64 k0.t2, .int .i64 k0.t3, .int .i64 k0.am, .int .i64 0, .slice (some ⟨gg, 0, none⟩) A.length cg, .int .i64 x, .int .i64 y, .int .i64 z, .int .i64 tm, .int .i64 mf, .int .i64 0, .int .i64 x, .int .i64 y, .int .i64 z, .int .i64 x, .int .i64 y, .int .i64 z, .int .i64 lo, .int .i64 hi, .int .i64 ct] (0, 0) _ G5.out Try.underlying43 rfl (by kernel_rfl) ?_)
                | (refine wpList_store_mid (by rfl) 43 (.tmp 4) (.tmp 97) (by rfl) w.heap.size 0 #[.string ⟨#[65, 66]⟩, .string k0.s, .string ⟨#[48, 48]⟩, .string ⟨#[66, 72, 90]⟩, .int .i64 k0.t1, .int .i64 k0.t2, .int .i64 k0.t3, .int .i64 k0.am, .int .i64 0, .slice (some ⟨gg, 0, none⟩) A.length cg, .int .i64 x, .int .i64 y, .int .i64 z, .int .i64 tm, .int .i64 mf, .int .i64 0, .int .i64 x, .int .i64 y, .int .i64 z, .int .i64 x, .int .i64 y, .int .i64 z, .int .i64 lo, .int .i64 hi, .int .i64 ct] (by rfl) (by rfl) (there_row G4.out 0 25 (by simp)) (by kernel_rfl) (by simp [Value.oneCell']) ?_; (change wpList _ _ _ _ _ (w10.setCells w.heap.size 0 [.string ⟨#[65, 66]⟩, .string k0.s, .string ⟨#[48, 48]⟩, .string ⟨#[66, 72, 90]⟩, .int .i64 k0.t1, .int .i64 k0.t2, .int .i64 k0.t3, .int .i64 k0.am, .int .i64 0, .slice (some ⟨gg, 0, none⟩) A.length cg, .int .i64 x, .int .i64 y, .int .i64 z, .int .i64 tm, .int .i64 mf, .int .i64 0, .int .i64 x, .int .i64 y, .int .i64 z, .int .i64 x, .int .i64 y, .int .i64 z, .int .i64 lo, .int .i64 hi, .int .i64 ct]))))
              simp only [Act.put]
              go_meet
              exact ⟨hide ((sets_heap _ w10 _ 0 G4.out).trans (by kernel_rfl)), hide (owns_heap HO.out fun k h1 h2 => sets_other (show k ≠ w.heap.size by omega) _ w10 0), hide (HD.out.keepB (sets_below (g := w.heap.size) _ w10 0) (by omega) (by omega)), hide (HR.out.sets (k := w.heap.size) _ 0 (by omega))⟩
            case rest =>
              obtain ⟨G4, HO, HD, HR⟩ := hcut
              go_wp2_with fail
              generalize wc = w11 at G4 HO HD HR ⊢
              refine bodyPost_ret (v := .agg #[.string ⟨#[65, 66]⟩, .string k0.s, .string ⟨#[48, 48]⟩, .string ⟨#[66, 72, 90]⟩, .int .i64 k0.t1, .int .i64 k0.t2, .int .i64 k0.t3, .int .i64 k0.am, .int .i64 0, .slice (some ⟨gg, 0, none⟩) A.length cg, .int .i64 x, .int .i64 y, .int .i64 z, .int .i64 tm, .int .i64 mf, .int .i64 0, .int .i64 x, .int .i64 y, .int .i64 z, .int .i64 x, .int .i64 y, .int .i64 z, .int .i64 lo, .int .i64 hi, .int .i64 ct]) (results_cell_row (by rfl) _ w11 w.heap.size 43 _ (0, 0) _ (by rfl) G4.out Try.underlying43 rfl (by kernel_rfl)) rfl ⟨⟨⟨⟨#[65, 66]⟩, k0.s, ⟨#[48, 48]⟩, ⟨#[66, 72, 90]⟩, k0.t1, k0.t2, k0.t3, k0.am, 0, some ⟨gg, 0, none⟩, A.length, cg, x, y, z, tm, mf, 0, x, y, z, x, y, z, lo, hi, ct⟩, A, rfl, hA1, hA4, ?_, ⟨⟨x0, x1⟩, ⟨y0, y1⟩, ⟨z0, z1⟩, ⟨by show 961 ≤ tm; omega, by show tm ≤ 1299; omega⟩, ⟨mf0, mf1⟩, ⟨ct0, ct1⟩, ⟨lo0, lo1⟩, ⟨hi0, hi1⟩⟩, by rw [← hg5] at HO; exact HO.out⟩, HD.out, HR.out⟩
              exact ⟨rfl, ⟨t, ht0, ht1, HOK.out, by obtain ⟨h1, h2, h3, h4, h5⟩ := HK0.out; exact ⟨rfl, h1, h2, h3, h4, h5⟩⟩⟩

end Go.Proofs.Ytlhphhiodckaaaa
