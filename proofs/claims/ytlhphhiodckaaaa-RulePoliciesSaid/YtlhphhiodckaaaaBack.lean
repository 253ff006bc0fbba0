/- slices.Backward over rules: its contract (SeqStopsK, two loop variables), at Kp := Below n₀. -/
import Derived.RangeFuncBox
import Derived.RangeFuncLeaves
import Derived.Shelf.Abstract
import Derived.WalkKit
import Derived.OwnWalkIn
import Derived.TacticsInMore
import Derived.LoopNIn
import Derived.LoopIn
import Derived.Test.YtlhphhiodckaaaaKeepPol
namespace Go.Proofs.Ytlhphhiodckaaaa
open Go.RowKit Go.Shelf
attribute [local go_sem] Oper.semAt_some
set_option linter.unusedVariables false
set_option linter.unusedSimpArgs false
/-- What has come when k rounds are over. -/
def upto {α : Type} (f : Nat → α) (k : Nat) : List α := (List.range k).map f
theorem upto_succ {α : Type} (f : Nat → α) (k : Nat) : upto f (k + 1) = upto f k ++ [f k] := by simp [upto, List.range_succ]
theorem upto_length {α : Type} (f : Nat → α) (k : Nat) : (upto f k).length = k := by simp [upto]
def rl0 : Rl := ⟨0, 0, 0, 0⟩
/-- Round j brings the rule j from the end. -/
def backF (L : List Rl) (j : Nat) : Nat × Rl := (L.length - 1 - j, L[L.length - 1 - j]?.getD rl0)
def encB (x : Nat × Rl) : Array Value := #[.int .i64 (x.1 : Int), .agg #[.int .i64 x.2.m, .int .i64 x.2.p, .int .i64 x.2.f, .int .i64 x.2.d]]
set_option maxRecDepth 100000 in
set_option maxHeartbeats 4000000 in
theorem back1_in (F : Fence) (n : Nat) (hf : F.fn 38) (hro : F.round = none) (hn : 1 ≤ n) (l Bs n₀ : Nat) (p : Option Addr) (len cap : Nat) (L : List Rl) (hlen : len ≤ 1000000) (hBn : Bs < n₀) (J Jx : List (Nat × Rl) → World → Prop)
    (hY : ∀ pre x W, J pre W → pre.length < L.length → YieldAt F (n - 1) Try.prog l (encB x) W fun e W' =>
      (e = .returned (.bool true) ∧ J (pre ++ [x]) W' ∧ Below n₀ W W') ∨ (e = .returned (.bool false) ∧ Jx (pre ++ [x]) W'))
    (W : World) (hBs : W.cell? ⟨Bs, 0, none⟩ = some (.slice p len cap)) (hL : RlRow W p len L) (hbn : ∀ b off, p = some ⟨b, off, none⟩ → len = 0 ∨ b < n₀) (h0 : J [] W) :
    CallsIn F n Try.prog 38 #[.func (.yield l) #[] #[], .pointer (some ⟨Bs, 0, none⟩)] W fun e W' => (∃ v, e = .returned v) ∧
      ((∃ ys, ys = upto (backF L) L.length ∧ J ys W') ∨ (∃ pre, (∃ k, k ≤ L.length ∧ pre = upto (backF L) k) ∧ Jx pre W')) := by
  refine callsIn_of_wp Try.func38 rfl hf ?_ hro
  simp only [Try.ntmps38, List.size_toArray, List.length_cons, List.length_nil, Nat.reduceAdd, Nat.reduceSub, Array.replicate_succ, Array.replicate_zero, List.push_toArray, List.append_toArray, List.nil_append, List.cons_append]
  have HLN := hide hL.1
  have HL := hide hL.2
  clear hL
  gi_wp2
  gi_loopw [3] (fun i wr => ∃ k m : Nat, k + m = len ∧ i = .int .i64 ((m : Int) - 1) ∧ J (upto (backF L) k) wr ∧ Below n₀ W wr)
    (fun i _ => (intOf i + 1).toNat)
  case atStart => exact ⟨0, len, by omega, rfl, h0, Below.refl _ _⟩
  case round =>
    obtain ⟨k, m, hkm, rfl, hJs, hnx⟩ := hrel
    have hcb : wr.cell? ⟨Bs, 0, none⟩ = some (.slice p len cap) := (hnx.cell (p := ⟨Bs, 0, none⟩) hBn).trans hBs
    cases m with
    | zero =>
      have hk : k = L.length := by have := HLN.out; omega
      gi_wp2
      go_end0
      exact ⟨⟨_, rfl⟩, .inl ⟨_, rfl, by rw [← hk]; exact hJs⟩⟩
    | succ m =>
      have hm1 : (((m + 1 : Nat) : Int) - 1) = (m : Int) := by omega
      rw [hm1]
      clear hm1
      rcases HL.out with h0' | ⟨b, off, hp, hc⟩
      · omega
      have hmL : m < L.length := by have := HLN.out; omega
      have hbb : b < n₀ := by
        rcases hbn b off hp with h1 | h1
        · omega
        · exact h1
      obtain ⟨x0, x1, x2, x3⟩ := hc m hmL
      have y0 : wr.cell? ⟨b, off + m * 4, none⟩ = some (.int .i64 L[m].m) := (hnx.cell (p := ⟨b, off + m * 4, none⟩) hbb).trans x0
      have y1 : wr.cell? ⟨b, off + m * 4 + 1, none⟩ = some (.int .i64 L[m].p) := (hnx.cell (p := ⟨b, off + m * 4 + 1, none⟩) hbb).trans x1
      have y2 : wr.cell? ⟨b, off + m * 4 + 2, none⟩ = some (.int .i64 L[m].f) := (hnx.cell (p := ⟨b, off + m * 4 + 2, none⟩) hbb).trans x2
      have y3 : wr.cell? ⟨b, off + m * 4 + 3, none⟩ = some (.int .i64 L[m].d) := (hnx.cell (p := ⟨b, off + m * 4 + 3, none⟩) hbb).trans x3
      clear x0 x1 x2 x3
      have hbf : backF L k = (m, L[m]) := by
        unfold backF
        have e : L.length - 1 - k = m := by have := HLN.out; omega
        rw [e, List.getElem?_eq_getElem hmL]
        rfl
      have hY1 := hY _ (m, L[m]) wr hJs (by rw [upto_length]; have := HLN.out; omega)
      have HBF := hide hbf
      generalize L[m] = r at *
      obtain ⟨fn, tmps, assign, body, hy, hR⟩ := hY1
      dsimp only [encB] at hy
      have hmI : (m : Int) < (len : Int) := by omega
      have hm0 : (0 : Int) ≤ (m : Int) := by omega
      have dm : decide ((0 : Int) ≤ (m : Int)) = true := by simp
      rw [hp] at hcb
      clear hc hbf hp
      gi_wp2
      refine hR.mono ?_
      rintro e W3 (⟨rfl, hJ3, hk3⟩ | ⟨rfl, hJx3⟩)
      · gi_wp2
        go_roundw
        case rel => exact ⟨k + 1, m, by omega, by first | rfl | (congr 1), by rw [upto_succ, HBF.out]; exact hJ3, hnx.trans hk3⟩
        case measure => simp [intOf]
      · gi_wp2
        refine bodyPost_ret (results_none rfl _ _ _) rfl ?_
        exact ⟨⟨_, rfl⟩, .inr ⟨_, ⟨k + 1, by have := HLN.out; omega, by rw [upto_succ, HBF.out]⟩, hJx3⟩⟩
set_option maxHeartbeats 1000000 in
theorem back_in (F : Fence) (n : Nat) (hf : F.fn 31) (hro : F.round = none) (p : Option Addr) (len cap : Nat) (w : World) :
    CallsIn F n Try.prog 31 #[.slice p len cap] w fun e w' => e = .returned (.func (.func 38) #[] #[.pointer (some ⟨w.heap.size, 0, none⟩)]) ∧ w' = w.alloc (.cells #[.slice p len cap] 22) := by
  refine callsIn_of_wp Try.func31 rfl hf ?_ hro
  simp only [Try.ntmps31, List.size_toArray, List.length_cons, List.length_nil, Nat.reduceAdd, Nat.reduceSub, Array.replicate_succ, Array.replicate_zero, List.push_toArray, List.append_toArray, List.nil_append, List.cons_append]
  gi_wp2
  go_ret
  exact ⟨rfl, rfl⟩
theorem RlRow.belowN {n₀ : Nat} {w w' : World} {p : Option Addr} {len : Nat} {L : List Rl} (h : RlRow w p len L) (hb : Below n₀ w w') (hbn : ∀ b off, p = some ⟨b, off, none⟩ → len = 0 ∨ b < n₀) : RlRow w' p len L :=
  h.heap fun b off hp _ => (hbn b off hp).imp id fun hl => hb.block b hl
theorem back_stops (F : Fence) (n : Nat) (hf : F.fn 38) (hro : F.round = none) (hn : 1 ≤ n) (Bs n₀ : Nat) (p : Option Addr) (len cap : Nat) (L : List Rl) (hlen : len ≤ 1000000) (w : World) (hBs : Bs < n₀) (hn₀ : n₀ ≤ w.heap.size)
    (hc : w.cell? ⟨Bs, 0, none⟩ = some (.slice p len cap)) (hL : RlRow w p len L) (hbn : ∀ b off, p = some ⟨b, off, none⟩ → len = 0 ∨ b < n₀) :
    SeqStopsK F n Try.prog 38 #[.pointer (some ⟨Bs, 0, none⟩)] encB (Below n₀) (fun ys => ys = upto (backF L) L.length) (fun pre => ∃ k, k ≤ L.length ∧ pre = upto (backF L) k) L.length w := fun l J Jx W hW _ _ hY h0 => by
  have hc' := (hW.cell (p := ⟨Bs, 0, none⟩) (show Bs < w.heap.size by omega)).trans hc
  exact back1_in F n hf hro hn l Bs n₀ p len cap L hlen hBs J Jx hY W hc' (hL.belowN (hW.mono hn₀) hbn) hbn h0
end Go.Proofs.Ytlhphhiodckaaaa
