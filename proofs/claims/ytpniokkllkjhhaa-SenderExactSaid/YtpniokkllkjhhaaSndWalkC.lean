/- The walks of the sender: its state by the messages that were pushed; Get. -/
import Derived.Test.YtpniokkllkjhhaaSndWalkB
namespace Go.Proofs.Ytpniokkllkjhhaa
open Go.RowKit
set_option linter.unusedVariables false
set_option linter.unusedSimpArgs false
/-- What is kept of all messages, and from which number on. -/
def stD (s : Nat) (X : List ByteArray) : List ByteArray := X.drop (X.length - s)
def stF (s : Nat) (X : List ByteArray) : Nat := X.length - s
theorem stD_length (s : Nat) (X : List ByteArray) : (stD s X).length = X.length - (X.length - s) := by unfold stD; rw [List.length_drop]
theorem st_push {s : Nat} (hs : 1 ≤ s) (X : List ByteArray) (x : ByteArray) : pushD s (stD s X) x = stD s (X ++ [x]) ∧ pushF s (stF s X) (stD s X) = stF s (X ++ [x]) := by
  have hl := stD_length s X
  have hl2 : (X ++ [x]).length = X.length + 1 := by simp
  unfold pushD pushF
  by_cases h : s ≤ X.length
  · have e : (stD s X).length = s := by omega
    rw [if_pos e, if_pos e]
    constructor
    · unfold stD
      rw [hl2, ← List.drop_append_of_le_length (by omega), List.drop_drop]
      congr 1
      omega
    · unfold stF; omega
  · have e : (stD s X).length ≠ s := by omega
    rw [if_neg e, if_neg e]
    constructor
    · unfold stD
      rw [hl2, show X.length - s = 0 by omega, show X.length + 1 - s = 0 by omega]
      rfl
    · unfold stF; omega
theorem st_ok {s : Nat} (hs : 1 ≤ s ∧ s ≤ 256) {X : List ByteArray} (hX : X.length ≤ 1000000) (hx : ∀ x ∈ X, x.size ≤ 4064) : SOk s (stF s X) (stD s X) := by
  have hl := stD_length s X
  refine ⟨hs.1, hs.2, by omega, by unfold stF; omega, fun x h => hx x (List.mem_of_mem_drop h)⟩
theorem snd_pushX (s : Nat) (X : List ByteArray) (x : ByteArray) (p : Option Addr) (n c : Nat) (hs : 1 ≤ s ∧ s ≤ 256) (hX : X.length ≤ 1000000) (hXs : ∀ x ∈ X, x.size ≤ 4064) (hx : x.size ≤ 4064) (hc : n ≤ c ∧ c ≤ 9223372036854775807) (w : World) (hr : StrRow w p n (stD s X)) :
    Calls Try.prog 12 #[.agg #[.int .i64 s, .int .i64 (stF s X : Nat), .slice p n c], .string x] w fun e w' => (∃ b' o' n' c', e = .returned (.tuple #[.agg #[.int .i64 s, .int .i64 (stF s (X ++ [x]) : Nat), .slice (some ⟨b', o', none⟩) n' c'], .int .i64 (X.length : Nat), .int .i64 0]) ∧ w.heap.size ≤ b' ∧ StrRow w' (some ⟨b', o', none⟩) n' (stD s (X ++ [x])) ∧ n' ≤ c' ∧ c' ≤ 9223372036854775807) ∧ Below w.heap.size w w' := by
  have hl := stD_length s X
  have q := snd_push s (stF s X) (stD s X) x p n c (st_ok hs hX hXs) hx (by unfold stF; omega) hc w hr
  rw [(st_push hs.1 X x).1, (st_push hs.1 X x).2, show stF s X + (stD s X).length = X.length by unfold stF; omega] at q
  exact q
set_option maxHeartbeats 4000000 in
set_option maxRecDepth 100000 in
theorem snd_getX_yes (s : Nat) (X : List ByteArray) (k : Nat) (p : Option Addr) (n c : Nat) (hs : 1 ≤ s ∧ s ≤ 256) (hX : X.length ≤ 1000000) (hXs : ∀ x ∈ X, x.size ≤ 4064) (hc : n ≤ c ∧ c ≤ 9223372036854775807) (hk : X.length ≤ k + s) (hk2 : k < X.length) (w : World) (hr : StrRow w p n (stD s X)) :
    Calls Try.prog 15 #[.agg #[.int .i64 s, .int .i64 (stF s X : Nat), .slice p n c], .int .i64 k] w fun e w' => e = .returned (.tuple #[.string X[k], .bool true]) ∧ Below w.heap.size w w' := by
  have hl := stD_length s X
  have hnD := hr.1
  have HV := hide (fun (W : World) (hW : StrRow W p n (stD s X)) => snd_valid s (stF s X) (stD s X) p n c (st_ok hs hX hXs) W hW)
  have hfn : stF s X + n = X.length := by unfold stF; omega
  have HNX := hide (snd_next s (stF s X) p n c (by unfold stF; omega) (by omega))
  have hfk : stF s X ≤ k := by unfold stF; omega
  obtain ⟨j, hj⟩ : ∃ j, k = stF s X + j := ⟨k - stF s X, by omega⟩
  have hjn : j < n := by omega
  obtain ⟨-, h0 | ⟨b, off, rfl, hcell⟩⟩ := hr
  · omega
  have cj := hcell j (by omega)
  have ej : (stD s X)[j]'(by omega) = X[k] := by
    unfold stD
    rw [List.getElem_drop]
    congr 1
    unfold stF at hj; omega
  rw [ej] at cj
  have HR := hide (show StrRow w (some ⟨b, off, none⟩) n (stD s X) from ⟨hnD, .inr ⟨b, off, rfl, hcell⟩⟩)
  generalize X[k] = y at *
  clear ej hcell hl
  generalize hF : stF s X = f at *
  have HFX := hide hF
  have e1 : (k : Int) - (f : Int) = (j : Int) := by omega
  have e2 : (j : Int) < (n : Int) := by omega
  have e3 : (f : Int) + (n : Int) - 1 = (X.length : Int) - 1 := by omega
  have hin := hide (snd_in_yes (k : Int) (f : Int) ((f : Int) + (n : Int) - 1) ⟨by omega, by omega⟩)
  have HJ := hide hj
  have hfb : f ≤ 1000000 := by omega
  have hnb : n ≤ 1000000 := by omega
  have hkb : k ≤ 1000000 := by omega
  clear hnD hF hj e3 hXs
  go_enter Try.func15, Try.ntmps15
  go_wp2_with fail
  have h0 := heap_alloc_new w (.cells #[.int .i64 s, .int .i64 f, .slice (some ⟨b, off, none⟩) n c] 30)
  have HB := hide (below1 (w := w) (.cells #[.int .i64 s, .int .i64 f, .slice (some ⟨b, off, none⟩) n c] 30))
  have cj' : (w.alloc (.cells #[.int .i64 s, .int .i64 f, .slice (some ⟨b, off, none⟩) n c] 30)).cell? ⟨b, off + j, none⟩ = some (.string y) := by rw [HB.out.cell (block_lt_of_cell cj)]; exact cj
  generalize w.alloc (.cells #[.int .i64 s, .int .i64 f, .slice (some ⟨b, off, none⟩) n c] 30) = W at *
  obtain ⟨c0, c1, c2, -, -, -⟩ := tri_cells h0
  have k0 := fun q : More => cell_more c0 q
  have k1 := fun q : More => cell_more c1 q
  have k2 := fun q : More => cell_more c2 q
  have H0 := hide h0
  have CJ := hide cj'
  have KR := fun q : More => HR.out.keep (HB.out.trans ((below_more W q).mono HB.out.size))
  have HKR := hide KR
  clear h0 cj cj' c0 c1 c2 KR
  refine wp_region_grown (by kernel_rfl) (by kernel_rfl) ?_
  repeat (go_big_quiet_step ((first
    | (go_at_call 13; exact more_of (HV.out _ (HKR.out _)))
    | (go_at_call 14; exact more_of (HNX.out _))
    | (go_at_call 27; exact more_of_same (hin.out _)))))
  refine wpQuiet_nil ?_
  intro w2 hb2
  have g0 := (hb2.block _ (Array.getElem?_eq_some_iff.1 H0.out).1).trans H0.out
  obtain ⟨c0, c1, c2, -, -, -⟩ := tri_cells g0
  have cj2 : w2.cell? ⟨b, off + j, none⟩ = some (.string y) := by rw [hb2.cell (block_lt_of_cell CJ.out)]; exact CJ.out
  have HB2 := hide hb2
  clear g0 hb2 k0 k1 k2
  go_wp2
  go_ret2
  exact ⟨by first | rfl | simp, HB.out.trans (HB2.out.mono HB.out.size)⟩
set_option maxHeartbeats 4000000 in
set_option maxRecDepth 100000 in
theorem snd_getX_no (s : Nat) (X : List ByteArray) (k : Int) (p : Option Addr) (n c : Nat) (hs : 1 ≤ s ∧ s ≤ 256) (hX : X.length ≤ 1000000) (hXs : ∀ x ∈ X, x.size ≤ 4064) (hk : k < (stF s X : Nat) ∨ (X.length : Int) ≤ k) (w : World) (hr : StrRow w p n (stD s X)) :
    Calls Try.prog 15 #[.agg #[.int .i64 s, .int .i64 (stF s X : Nat), .slice p n c], .int .i64 k] w fun e w' => e = .returned (.tuple #[.string ⟨#[]⟩, .bool false]) ∧ Below w.heap.size w w' := by
  have hl := stD_length s X
  have hnD := hr.1
  have HV := hide (fun (W : World) (hW : StrRow W p n (stD s X)) => snd_valid s (stF s X) (stD s X) p n c (st_ok hs hX hXs) W hW)
  have hfn : stF s X + n = X.length := by unfold stF; omega
  have HNX := hide (snd_next s (stF s X) p n c (by unfold stF; omega) (by omega))
  have HR := hide hr
  generalize hF : stF s X = f at *
  have HFX := hide hF
  have hin := hide (snd_in_no k (f : Int) ((f : Int) + (n : Int) - 1) (by omega))
  have hfb : f ≤ 1000000 := by omega
  have hnb : n ≤ 1000000 := by omega
  clear hnD hl hF hXs hr hk
  go_enter Try.func15, Try.ntmps15
  go_wp2_with fail
  have h0 := heap_alloc_new w (.cells #[.int .i64 s, .int .i64 f, .slice p n c] 30)
  have HB := hide (below1 (w := w) (.cells #[.int .i64 s, .int .i64 f, .slice p n c] 30))
  generalize w.alloc (.cells #[.int .i64 s, .int .i64 f, .slice p n c] 30) = W at *
  obtain ⟨c0, c1, c2, -, -, -⟩ := tri_cells h0
  have k0 := fun q : More => cell_more c0 q
  have k1 := fun q : More => cell_more c1 q
  have k2 := fun q : More => cell_more c2 q
  have KR := fun q : More => HR.out.keep (HB.out.trans ((below_more W q).mono HB.out.size))
  have HKR := hide KR
  clear h0 c0 c1 c2 KR
  refine wp_region_grown (by kernel_rfl) (by kernel_rfl) ?_
  repeat (go_big_quiet_step ((first
    | (go_at_call 13; exact more_of (HV.out _ (HKR.out _)))
    | (go_at_call 14; exact more_of (HNX.out _))
    | (go_at_call 27; exact more_of_same (hin.out _)))))
  refine wpQuiet_nil ?_
  intro w2 hb2
  have HB2 := hide hb2
  clear hb2 k0 k1 k2
  go_wp2
  go_ret2
  exact ⟨by first | rfl | simp, HB.out.trans (HB2.out.mono HB.out.size)⟩
end Go.Proofs.Ytpniokkllkjhhaa
