/- The walk of the sender's reference: Same, of equal senders; a sender in memory. -/
import Derived.Test.YtpniokkllkjhhaaSndAnyE
import Derived.Test.YtpniokkllkjhhaaSndKeepsLaw
import Derived.Test.YtpniokkllkjhhaaSndSpanB
namespace Go.Proofs.Ytpniokkllkjhhaa
open Go.RowKit
set_option linter.unusedVariables false
set_option linter.unusedSimpArgs false
set_option maxHeartbeats 4000000 in
set_option maxRecDepth 100000 in
theorem sref_same (s f : Int) (D : List ByteArray) (p q : Option Addr) (n c m d : Nat) (hD : D.length ≤ 1000000) (w : World) (hr : StrRow w p n D) (hq : StrRow w q m D) :
    Calls Try.prog 18 #[.agg #[.int .i64 s, .int .i64 f, .slice p n c], .agg #[.int .i64 s, .int .i64 f, .slice q m d]] w fun e w' => e = .returned (.bool true) ∧ Below w.heap.size w w' := by
  obtain ⟨rfl, hr⟩ := hr
  obtain ⟨rfl, hq⟩ := hq
  have HR := hide hr
  have HQ := hide hq
  have G0 := hide (pair_alloc (heap_alloc_new w (.cells #[.int .i64 s, .int .i64 f, .slice p D.length c] 30)) (.cells #[.int .i64 s, .int .i64 f, .slice q D.length d] 30))
  have G1 := hide (new_at (w := w.alloc (.cells #[.int .i64 s, .int .i64 f, .slice p D.length c] 30)) (.cells #[.int .i64 s, .int .i64 f, .slice q D.length d] 30) (g := w.heap.size + 1) (by simp))
  have HB := hide (below2 (w := w) (.cells #[.int .i64 s, .int .i64 f, .slice p D.length c] 30) (.cells #[.int .i64 s, .int .i64 f, .slice q D.length d] 30))
  clear hr hq
  go_enter Try.func18, Try.ntmps18
  go_wp2
  generalize (w.alloc (.cells #[.int .i64 s, .int .i64 f, .slice p D.length c] 30)).alloc (.cells #[.int .i64 s, .int .i64 f, .slice q D.length d] 30) = W at *
  go_loopw [5] (fun i wr => ∃ k : Nat, k ≤ D.length ∧ i = .int .i64 k ∧ Hid (Below W.heap.size W wr)) (fun i _ => D.length - (intOf i).toNat)
  case atStart => exact ⟨0, Nat.zero_le _, rfl, Below.refl _ _⟩
  case round =>
    obtain ⟨k, hk, rfl, HB2⟩ := hrel
    have g0 := (HB2.out.block _ (Array.getElem?_eq_some_iff.1 G0.out).1).trans G0.out
    have g1 := (HB2.out.block _ (Array.getElem?_eq_some_iff.1 G1.out).1).trans G1.out
    obtain ⟨c0, c1, c2, -, -, -⟩ := tri_cells g0
    obtain ⟨e0, e1, e2, -, -, -⟩ := tri_cells g1
    clear g0 g1
    have HB3 := hide (HB.out.trans (HB2.out.mono HB.out.size))
    by_cases hlt : k < D.length
    · rcases HR.out with h0 | ⟨b, off, rfl, hc⟩
      · omega
      rcases HQ.out with h0 | ⟨b2, off2, rfl, hc2⟩
      · omega
      have x1 : wr.cell? ⟨b, off + k, none⟩ = some (.string D[k]) := by rw [HB3.out.cell (block_lt_of_cell (hc k hlt))]; exact hc k hlt
      have x2 : wr.cell? ⟨b2, off2 + k, none⟩ = some (.string D[k]) := by rw [HB3.out.cell (block_lt_of_cell (hc2 k hlt))]; exact hc2 k hlt
      clear hc hc2
      generalize D[k] = y at *
      go_wp2
      go_region
      go_wp2
      go_roundw
      case rel => exact ⟨k + 1, by omega, by go_num, hide HB2.out.drew⟩
      case measure => simp [intOf]; omega
    · have d : decide ((k : Int) < (D.length : Int)) = false := by simp; omega
      have d' : decide (k < D.length) = false := by simp; omega
      go_wp2
      go_ret
      exact ⟨rfl, HB3.out⟩
/-- A sender in memory. -/
structure Sn where
  s : Int
  f : Int
  p : Option Addr
  n : Nat
  c : Nat
  D : List ByteArray
def Sn.ok (x : Sn) (gd : Nat) (w : World) : Prop :=
  StrRow w x.p x.n x.D ∧ (x.n ≤ x.c ∧ x.c ≤ 9223372036854775807) ∧ (x.p = none → x.n = 0 ∧ x.c = 0) ∧ x.D.length ≤ 300 ∧ (∀ b off, x.p = some ⟨b, off, none⟩ → x.n = 0 ∨ b ≠ gd) ∧ (-9223372036854775808 ≤ x.s ∧ x.s ≤ 9223372036854775807) ∧ (-9223372036854775808 ≤ x.f ∧ x.f ≤ 9223372036854775807)
theorem StrRow.heap {w w' : World} {p : Option Addr} {n : Nat} {D : List ByteArray} (h : StrRow w p n D) (hg : ∀ b off, p = some ⟨b, off, none⟩ → b < w.heap.size → n = 0 ∨ w'.heap[b]? = w.heap[b]?) : StrRow w' p n D := by
  obtain ⟨rfl, h | ⟨b, off, rfl, h⟩⟩ := h
  · exact ⟨rfl, .inl h⟩
  · by_cases h0 : D.length = 0
    · exact ⟨rfl, .inl h0⟩
    · rcases hg b off rfl (block_lt_of_cell (h 0 (by omega))) with h1 | h1
      · omega
      · exact strRow_of rfl h h1
theorem Sn.ok.heap {x : Sn} {gd : Nat} {w w' : World} (h : x.ok gd w) (hg : ∀ b off, x.p = some ⟨b, off, none⟩ → b < w.heap.size → x.n = 0 ∨ w'.heap[b]? = w.heap[b]?) : x.ok gd w' := by
  obtain ⟨h1, h2, h3, h4, h5, h6⟩ := h
  exact ⟨h1.heap hg, h2, h3, h4, h5, h6⟩
theorem Sn.ok.rolls {x : Sn} {gd : Nat} {w w' : World} (h : x.ok gd w) (hr : Rolls gd w w') : x.ok gd w' :=
  h.heap fun b off hp hb => by
    rcases h.2.2.2.2.1 b off hp with h1 | h1
    · exact .inl h1
    · exact .inr (hr.block b hb h1)
theorem Sn.ok.keep {x : Sn} {gd : Nat} {w w' : World} (h : x.ok gd w) (hb : Below w.heap.size w w') : x.ok gd w' :=
  h.heap fun b off hp hl => .inr (hb.block b hl)
theorem Rolls.cell {g : Nat} {w w' : World} (h : Rolls g w w') {a : Addr} {v : Value} (hv : w.cell? a = some v) (hg : a.block ≠ g) : w'.cell? a = some v := by
  have hb := block_lt_of_cell hv
  have := h.block a.block hb hg
  rw [← hv]
  simp [World.cell?, this]
theorem SpRow.rolls {w w' : World} {p : Option Addr} {n g : Nat} {L : List (Int × Int)} (h : SpRow w p n L) (hr : Rolls g w w') (hg : ∀ b off, p = some ⟨b, off, none⟩ → n = 0 ∨ b ≠ g) : SpRow w' p n L := by
  obtain ⟨rfl, h | ⟨b, off, rfl, h⟩⟩ := h
  · exact ⟨rfl, .inl h⟩
  · rcases hg b off rfl with hne | hne
    · exact ⟨rfl, .inl hne⟩
    exact ⟨rfl, .inr ⟨b, off, rfl, fun i hi => ⟨hr.cell (h i hi).1 hne, hr.cell (h i hi).2 hne⟩⟩⟩
end Go.Proofs.Ytpniokkllkjhhaa
