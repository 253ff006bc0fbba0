/- slices.Backward over the limbs of a number: its contract (SeqStopsK, two loop variables), at Kp := KX n₀ sx (all blocks below n₀ but one stay). -/
import Derived.RangeFuncBox
import Derived.RangeFuncLeaves
import Derived.Shelf.Abstract
import Derived.WalkKit
import Derived.OwnWalkIn
import Derived.TacticsInMore
import Derived.LoopNIn
import Derived.LoopIn
import Derived.Test.YtlpebecbipjoaaaGreatDoorNaC
import Derived.Test.YtlpebecbipjoaaaGreatDoorLib
namespace Go.Proofs.YtlpebecbipjoaaaGreatDoor
open Go.RowKit Go.Shelf
attribute [local go_sem] Oper.semAt_some
set_option linter.unusedVariables false
set_option linter.unusedSimpArgs false
/-- What has come when k rounds are over. -/
def upto {α : Type} (f : Nat → α) (k : Nat) : List α := (List.range k).map f
theorem upto_succ {α : Type} (f : Nat → α) (k : Nat) : upto f (k + 1) = upto f k ++ [f k] := by simp [upto, List.range_succ]
theorem upto_length {α : Type} (f : Nat → α) (k : Nat) : (upto f k).length = k := by simp [upto]
/-- A slice of ints in memory. -/
def ILRow (w : World) (p : Option Addr) (n : Nat) (L : List Int) : Prop :=
  n = L.length ∧ (n = 0 ∨ ∃ b off : Nat, p = some ⟨b, off, none⟩ ∧ ∀ i (h : i < L.length), w.cell? ⟨b, off + i, none⟩ = some (.int .i64 L[i]))
theorem ILRow.heap {w w' : World} {p : Option Addr} {n : Nat} {L : List Int} (h : ILRow w p n L) (hg : ∀ b off, p = some ⟨b, off, none⟩ → b < w.heap.size → n = 0 ∨ w'.heap[b]? = w.heap[b]?) : ILRow w' p n L := by
  obtain ⟨rfl, h | ⟨b, off, rfl, h⟩⟩ := h
  · exact ⟨rfl, .inl h⟩
  · by_cases h0 : L.length = 0
    · exact ⟨rfl, .inl h0⟩
    · rcases hg b off rfl (cell_lt (h 0 (by omega))) with h1 | h1
      · omega
      · exact ⟨rfl, .inr ⟨b, off, rfl, fun i hi => by rw [cell_of_heap h1]; exact h i hi⟩⟩
theorem ILRow.keep {w w' : World} {p : Option Addr} {n : Nat} {L : List Int} (h : ILRow w p n L) (hb : Below w.heap.size w w') : ILRow w' p n L := h.heap fun b off hp hl => .inr (hb.block b hl)
/-- Round j brings the rule j from the end. -/
def backF (L : List Int) (j : Nat) : Nat × Int := (L.length - 1 - j, L[L.length - 1 - j]?.getD 0)
def encB (x : Nat × Int) : Array Value := #[.int .i64 (x.1 : Int), .int .i64 x.2]
/-- The blocks below a place stay, but one. -/
structure KX (n₀ sx : Nat) (W W' : World) : Prop where
  size : W.heap.size ≤ W'.heap.size
  block : ∀ k, k < n₀ → k ≠ sx → W'.heap[k]? = W.heap[k]?
theorem KX.refl (n₀ sx : Nat) (W : World) : KX n₀ sx W W := ⟨Nat.le_refl _, fun _ _ _ => rfl⟩
theorem KX.trans {n₀ sx : Nat} {A B C : World} (h : KX n₀ sx A B) (k : KX n₀ sx B C) : KX n₀ sx A C := ⟨Nat.le_trans h.size k.size, fun b h1 h2 => (k.block b h1 h2).trans (h.block b h1 h2)⟩
theorem KX.cell {n₀ sx : Nat} {W W' : World} (h : KX n₀ sx W W') (b o : Nat) (h1 : b < n₀) (h2 : b ≠ sx) : W'.cell? ⟨b, o, none⟩ = W.cell? ⟨b, o, none⟩ := cell_of_heap (h.block b h1 h2) o
theorem KX.put {n₀ sx : Nat} {w : World} (hn : n₀ ≤ w.heap.size) (W : World) (l : Nat) (o o' : Obj) (hl : w.heap.size ≤ l) (h : W.heap[l]? = some o) (h1 : o.isCells = false) (h2 : o.isWalk = false) : KX n₀ sx W (W.putObj l o') := by
  have := belowK_b hn W l o o' hl h h1 h2
  exact ⟨this.size, fun k hk _ => this.block k hk⟩
set_option maxRecDepth 100000 in
set_option maxHeartbeats 4000000 in
theorem back1_in (F : Fence) (n : Nat) (hf : F.fn 62) (hro : F.round = none) (hn : 1 ≤ n) (l Bs n₀ sx : Nat) (hsB : Bs ≠ sx) (p : Option Addr) (len cap : Nat) (L : List Int) (hlen : len ≤ 1000000) (hBn : Bs < n₀) (J Jx : List (Nat × Int) → World → Prop)
    (hY : ∀ pre x W, J pre W → pre.length < L.length → YieldAt F (n - 1) Tryz.prog l (encB x) W fun e W' =>
      (e = .returned (.bool true) ∧ J (pre ++ [x]) W' ∧ KX n₀ sx W W') ∨ (e = .returned (.bool false) ∧ Jx (pre ++ [x]) W'))
    (W : World) (hBs : W.cell? ⟨Bs, 0, none⟩ = some (.slice p len cap)) (hL : ILRow W p len L) (hbn : ∀ b off, p = some ⟨b, off, none⟩ → len = 0 ∨ b < n₀ ∧ b ≠ sx) (h0 : J [] W) :
    CallsIn F n Tryz.prog 62 #[.func (.yield l) #[] #[], .pointer (some ⟨Bs, 0, none⟩)] W fun e W' => (∃ v, e = .returned v) ∧
      ((∃ ys, ys = upto (backF L) L.length ∧ J ys W') ∨ (∃ pre, (∃ k, k ≤ L.length ∧ pre = upto (backF L) k) ∧ Jx pre W')) := by
  refine callsIn_of_wp Tryz.func62 rfl hf ?_ hro
  simp only [Tryz.ntmps62, List.size_toArray, List.length_cons, List.length_nil, Nat.reduceAdd, Nat.reduceSub, Array.replicate_succ, Array.replicate_zero, List.push_toArray, List.append_toArray, List.nil_append, List.cons_append]
  have HLN := hide hL.1
  have HL := hide hL.2
  clear hL
  gi_wp2
  gi_loopw [3] (fun i wr => ∃ k m : Nat, k + m = len ∧ i = .int .i64 ((m : Int) - 1) ∧ J (upto (backF L) k) wr ∧ KX n₀ sx W wr)
    (fun i _ => (intOf i + 1).toNat)
  case atStart => exact ⟨0, len, by omega, rfl, h0, KX.refl _ _ _⟩
  case round =>
    obtain ⟨k, m, hkm, rfl, hJs, hnx⟩ := hrel
    have hcb : wr.cell? ⟨Bs, 0, none⟩ = some (.slice p len cap) := (hnx.cell Bs 0 hBn hsB).trans hBs
    cases m with
    | zero =>
      have hk : k = L.length := by have := HLN.out; omega
      gi_wp2
      go_end0
      exact ⟨⟨_, rfl⟩, .inl ⟨_, rfl, by rw [← hk]; exact hJs⟩⟩
    | succ m =>
      have hm1 : (((m + 1 : Nat) : Int) - 1) = (m : Int) := by omega
      rw [hm1]
      clear hm1
      rcases HL.out with h0' | ⟨b, off, hp, hc⟩
      · omega
      have hmL : m < L.length := by have := HLN.out; omega
      have hbb : b < n₀ ∧ b ≠ sx := by
        rcases hbn b off hp with h1 | h1
        · omega
        · exact h1
      have x0 := hc m hmL
      have y0 : wr.cell? ⟨b, off + m, none⟩ = some (.int .i64 L[m]) := (hnx.cell b (off + m) hbb.1 hbb.2).trans x0
      clear x0
      have hbf : backF L k = (m, L[m]) := by
        unfold backF
        have e : L.length - 1 - k = m := by have := HLN.out; omega
        rw [e, List.getElem?_eq_getElem hmL]
        rfl
      have hY1 := hY _ (m, L[m]) wr hJs (by rw [upto_length]; have := HLN.out; omega)
      have HBF := hide hbf
      generalize L[m] = r at *
      obtain ⟨fn, tmps, assign, body, hy, hR⟩ := hY1
      dsimp only [encB] at hy
      have hmI : (m : Int) < (len : Int) := by omega
      have hm0 : (0 : Int) ≤ (m : Int) := by omega
      have dm : decide ((0 : Int) ≤ (m : Int)) = true := by simp
      rw [hp] at hcb
      clear hc hbf hp
      gi_wp2
      refine hR.mono ?_
      rintro e W3 (⟨rfl, hJ3, hk3⟩ | ⟨rfl, hJx3⟩)
      · gi_wp2
        go_roundw
        case rel => exact ⟨k + 1, m, by omega, by first | rfl | (congr 1), by rw [upto_succ, HBF.out]; exact hJ3, hnx.trans hk3⟩
        case measure => simp [intOf]
      · gi_wp2
        refine bodyPost_ret (results_none rfl _ _ _) rfl ?_
        exact ⟨⟨_, rfl⟩, .inr ⟨_, ⟨k + 1, by have := HLN.out; omega, by rw [upto_succ, HBF.out]⟩, hJx3⟩⟩
set_option maxHeartbeats 1000000 in
theorem back_in (F : Fence) (n : Nat) (hf : F.fn 51) (hro : F.round = none) (p : Option Addr) (len cap : Nat) (w : World) :
    CallsIn F n Tryz.prog 51 #[.slice p len cap] w fun e w' => e = .returned (.func (.func 62) #[] #[.pointer (some ⟨w.heap.size, 0, none⟩)]) ∧ w' = w.alloc (.cells #[.slice p len cap] 27) := by
  refine callsIn_of_wp Tryz.func51 rfl hf ?_ hro
  simp only [Tryz.ntmps51, List.size_toArray, List.length_cons, List.length_nil, Nat.reduceAdd, Nat.reduceSub, Array.replicate_succ, Array.replicate_zero, List.push_toArray, List.append_toArray, List.nil_append, List.cons_append]
  gi_wp2
  go_ret
  exact ⟨rfl, rfl⟩
theorem ILRow.belowN {n₀ : Nat} {w w' : World} {p : Option Addr} {len : Nat} {L : List Int} (h : ILRow w p len L) (hb : Below n₀ w w') (hbn : ∀ b off, p = some ⟨b, off, none⟩ → len = 0 ∨ b < n₀) : ILRow w' p len L :=
  h.heap fun b off hp _ => (hbn b off hp).imp id fun hl => hb.block b hl
theorem back_stops (F : Fence) (n : Nat) (hf : F.fn 62) (hro : F.round = none) (hn : 1 ≤ n) (Bs n₀ sx : Nat) (hsB : Bs ≠ sx) (p : Option Addr) (len cap : Nat) (L : List Int) (hlen : len ≤ 1000000) (w : World) (hBs : Bs < n₀) (hn₀ : n₀ ≤ w.heap.size)
    (hc : w.cell? ⟨Bs, 0, none⟩ = some (.slice p len cap)) (hL : ILRow w p len L) (hbn : ∀ b off, p = some ⟨b, off, none⟩ → len = 0 ∨ b < n₀ ∧ b ≠ sx) :
    SeqStopsK F n Tryz.prog 62 #[.pointer (some ⟨Bs, 0, none⟩)] encB (KX n₀ sx) (fun ys => ys = upto (backF L) L.length) (fun pre => ∃ k, k ≤ L.length ∧ pre = upto (backF L) k) L.length w := fun l J Jx W hW _ _ hY h0 => by
  have hc' := (hW.cell (p := ⟨Bs, 0, none⟩) (show Bs < w.heap.size by omega)).trans hc
  exact back1_in F n hf hro hn l Bs n₀ sx hsB p len cap L hlen hBs J Jx hY W hc' (hL.belowN (hW.mono hn₀) (fun b off hp => (hbn b off hp).imp id fun h => h.1)) hbn h0
end Go.Proofs.YtlpebecbipjoaaaGreatDoor
