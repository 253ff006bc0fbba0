/- Senders, slices of strings and of spans that came in: their cells. -/
import Derived.Test.YtpniokkllkjhhaaSndOdd
import Derived.ProofKit
import Derived.OpenShut
import Derived.SliceStrings
import Derived.Deep.SlicePairs
import Derived.Lib.SmallJoins
namespace Go.Proofs.Ytpniokkllkjhhaa
open Go.ChangeShapes Go.WideShapes Go.ChangeAt Go.RowKit Go.Joins Go.Deep
set_option linter.unusedVariables false
section
variable {H : Type} {enc : TypeId × Value → H} {w : World}
theorem strs_in {fuel : Nat} {cs : List Value} {x : DataW H × List MemPlace} (h : DataW.trod enc Try.prog w 0 (fun _ => true) true fuel 28 cs = some x) : ∃ (p : Option Addr) (n c : Nat) (D : List ByteArray), cs = [.slice p n c] ∧ StrRow w p n D ∧ (n ≤ c ∧ c ≤ 9223372036854775807) ∧ (p = none → n = 0 ∧ c = 0) := by
  rcases open_strings Try.underlying28 Try.underlying9 (by kernel_rfl) h with ⟨hcs, _⟩ | ⟨a, len, cap, ss, hcs, _, hl, hm, hz, _, hcell, hw⟩
  · exact ⟨none, 0, 0, [], hcs, ⟨rfl, .inl rfl⟩, by omega, fun _ => ⟨rfl, rfl⟩⟩
  · have hz2 : ss.length = cap := by simpa using hz
    refine ⟨some a, len, cap, ss.take len, hcs, ⟨by rw [List.length_take]; omega, ?_⟩, ⟨hl, by simp [maxLen] at hm; omega⟩, fun hn => by cases hn⟩
    by_cases h0 : len = 0
    · exact .inl h0
    · obtain ⟨b, off, spot⟩ := a
      have hc := hcell 0 (by omega)
      have hspot : spot = none := by simpa [Addr.add] using World.cell?_spot hc
      subst hspot
      refine .inr ⟨b, off, rfl, fun i hi => ?_⟩
      have hi2 : i < len := by rw [List.length_take] at hi; omega
      have hi3 : i < ss.length := by omega
      have hh := hcell i hi3
      rw [List.getD_eq_getElem?_getD, List.getElem?_eq_getElem hi3, Option.getD_some] at hh
      rw [List.getElem_take]
      by_cases hi0 : i = 0
      · subst hi0; simpa [Addr.add] using hh
      · simpa [Addr.add, hi0] using hh
def numV : Value → Int
  | .int _ x => x
  | _ => 0
theorem spans_in {fuel : Nat} {cs : List Value} {x : DataW H × List MemPlace} (h : DataW.trod enc Try.prog w 0 (fun _ => true) true fuel 41 cs = some x) : ∃ (p : Option Addr) (n c : Nat) (L : List (Int × Int)), cs = [.slice p n c] ∧ SpRow w p n L := by
  rcases open_slice_pairs Try.underlying41 Try.underlying58 (by kernel_rfl) (by kernel_rfl) (by kernel_rfl) (by kernel_rfl) (by kernel_rfl) h with ⟨hcs, _⟩ | ⟨a, len, cap, m, n, V0, V1, D0, D1, P0, P1, hcs, _, hl, hm, hmm, _, hi⟩
  · exact ⟨none, 0, 0, [], hcs, rfl, .inl rfl⟩
  · have hm2 : m = cap := by simpa using hmm
    refine ⟨some a, len, cap, (List.range len).map fun i => (numV (V0 i), numV (V1 i)), hcs, by simp, ?_⟩
    by_cases h0 : len = 0
    · exact .inl h0
    · obtain ⟨b, off, spot⟩ := a
      have hc := (hi 0 (by omega)).1
      have hspot : spot = none := by simpa [Addr.add] using World.cell?_spot hc
      subst hspot
      refine .inr ⟨b, off, rfl, fun i hi' => ?_⟩
      have hi2 : i < len := by simpa using hi'
      obtain ⟨e0, e1, t0, t1⟩ := hi i (by omega)
      obtain ⟨n0, hn0, -, -⟩ := DataW.trod_int Try.underlying3 t0
      obtain ⟨n1, hn1, -, -⟩ := DataW.trod_int Try.underlying3 t1
      injection hn0 with hn0 _
      injection hn1 with hn1 _
      rw [hn0] at e0
      rw [hn1] at e1
      simp only [List.getElem_map, List.getElem_range, hn0, hn1, numV]
      refine ⟨?_, ?_⟩
      · by_cases hi0 : i = 0
        · subst hi0; simpa [Addr.add] using e0
        · simpa [Addr.add, show ¬ i * 2 = 0 by omega] using e0
      · simpa [Addr.add, Nat.add_assoc] using e1
theorem sender_in {b0 : Nat} {v : Value} {d : DataW H} {p : List MemPlace} (hv : Value.okWide Try.prog w .any b0 30 v) (h : DataW.Trod enc Try.prog w 0 (fun _ => true) true 30 v d p) :
    ∃ R : Sn, v = .agg #[.int .i64 R.s, .int .i64 R.f, .slice R.p R.n R.c] ∧ StrRow w R.p R.n R.D ∧ (R.n ≤ R.c ∧ R.c ≤ 9223372036854775807) ∧ (R.p = none → R.n = 0 ∧ R.c = 0) ∧ (-9223372036854775808 ≤ R.s ∧ R.s ≤ 9223372036854775807) ∧ (-9223372036854775808 ≤ R.f ∧ R.f ≤ 9223372036854775807) := by
  obtain ⟨v0, v1, v2, y0, y1, y2, n, rfl, rfl, rfl, t0, t1, t2⟩ := open_agg3 Try.underlying30 (by kernel_rfl) (by kernel_rfl) hv h
  obtain ⟨s, hs, -, ws⟩ := DataW.trod_int Try.underlying3 t0
  obtain ⟨f, hf, -, wf⟩ := DataW.trod_int Try.underlying3 t1
  obtain ⟨q, m, c, D, hd, r1, r2, r3⟩ := strs_in t2
  injection hs with hs _
  injection hf with hf _
  injection hd with hd _
  subst hs
  subst hf
  subst hd
  exact ⟨⟨s, f, q, m, c, D⟩, rfl, r1, r2, r3, bounds_i64 ws, bounds_i64 wf⟩
end
end Go.Proofs.Ytpniokkllkjhhaa
