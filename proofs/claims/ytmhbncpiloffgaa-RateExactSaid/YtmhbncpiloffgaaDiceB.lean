/- The walks of the statements' dice: Pick. -/
import Derived.Test.YtmhbncpiloffgaaDice
import Derived.OpenShut
namespace Go.Proofs.Ytmhbncpiloffgaa
open Go.RowKit
set_option linter.unusedVariables false

theorem Die.lt {W : World} {a : Option Addr} {len cap g : Nat} {w : World} (h : Die W a len cap g w) : g < w.heap.size := by
  obtain ⟨i, _, h2⟩ := h.spot
  exact (Array.getElem?_eq_some_iff.1 h2).1
theorem Die.alloc {W : World} {a : Option Addr} {len cap g : Nat} {w : World} (h : Die W a len cap g w) (o : Obj) : Die W a len cap g (w.alloc o) := h.keep (below1 o)
theorem Die.drew {W : World} {a : Option Addr} {len cap g : Nat} {w : World} (h : Die W a len cap g w) : Die W a len cap g w.drew := h.keep (Below.refl _ _).drew
theorem intRow_nil (w : World) : IntRow w none 0 := ⟨by omega, .inl rfl⟩
theorem intRow_of {w : World} {x : Addr} {len : Nat} {zs : List Int} (hl : len ≤ zs.length) (hm : len ≤ maxLen) (hcell : ∀ i, i < zs.length → w.cell? (x.add i) = some (.int .i64 (zs.getD i 0))) (hwz : ∀ n ∈ zs, (Lit.int .i64 n).wf = true) : IntRow w (some x) len := by
  refine ⟨by simp [maxLen] at hm; omega, ?_⟩
  by_cases h0 : len = 0
  · exact .inl h0
  · obtain ⟨b, off, spot⟩ := x
    have hc := hcell 0 (by omega)
    have hspot : spot = none := by simpa [Addr.add] using World.cell?_spot hc
    subst hspot
    refine .inr ⟨b, off, rfl, fun i hi => ⟨zs.getD i 0, ?_, ?_⟩⟩
    · have := hcell i (by omega)
      by_cases hi0 : i = 0
      · subst hi0; simpa [Addr.add] using this
      · simpa [Addr.add, hi0] using this
    · have hmem : zs.getD i 0 ∈ zs := by
        rw [List.getD_eq_getElem?_getD, List.getElem?_eq_getElem (by omega)]; simp
      exact bounds_i64 (hwz _ hmem)
/-- An int of which p holds. -/
def isInt (p : Int → Bool) : Value → Bool
  | .int .i64 x => p x
  | _ => false
theorem isInt_get {p : Int → Bool} {cs : Array Value} (h : cs.toList.all (isInt p) = true) {i : Nat} (hi : i < cs.size) : ∃ x : Int, cs[i]? = some (.int .i64 x) ∧ p x = true := by
  have hv : isInt p cs[i] = true := (List.all_eq_true.1 h) _ (by simp)
  rw [Array.getElem?_eq_getElem hi]
  generalize cs[i] = v at hv
  match v, hv with
  | .int .i64 x, h => exact ⟨x, rfl, h⟩
theorem made_pick {W : World} {a : Option Addr} {len cap g : Nat} (p : Int → Bool) (cs : Array Value) (n : Nat) (hn : n = cs.size) (hn1 : 1 ≤ n ∧ n ≤ 1000) (hcs : cs.toList.all (isInt p) = true) (X : World) (hd : Die W a len cap g X) {B : Nat} (hB : X.heap.size = B) :
    Calls Try.prog 19 #[.pointer (some ⟨g, 0, none⟩), .slice (some ⟨B, 0, none⟩) n n] (X.alloc (.cells cs 3)) fun e w' => (∃ x : Int, e = .returned (.int .i64 x) ∧ p x = true) ∧ Die W a len cap g w' ∧ Rolls g X w' := by
  have lt := hd.lt
  have hd0 := hd.alloc (.cells cs 3)
  have h0 := heap_alloc_new X (.cells cs 3)
  have hr0 : Rolls g X (X.alloc (.cells cs 3)) := Rolls.of_below (below1 _)
  generalize X.alloc (.cells cs 3) = Y at *
  rw [hB] at h0 lt
  have q := made_next W a len cap g (n : Int) ⟨by omega, by omega⟩ Y hd0
  have Q := hide q
  obtain ⟨n1, n2⟩ := hn1
  have H0 := hide h0
  have HC := hide hcs
  have HN := hide hn
  clear q hB hd hd0 h0 hcs hn
  have tok := lt
  go_enter Try.func19, Try.ntmps19
  go_wp2_with (first
    | (go_at_call 17; (with_reducible refine (Q.out).mono ?_); rintro e w1 ⟨⟨x, rfl, x0, x1⟩, hd1, hr1⟩;
       (obtain ⟨j, rfl⟩ : ∃ j : Nat, x = (j : Int) := ⟨x.toNat, by omega⟩);
       (have hj : j < n := by omega);
       (obtain ⟨v, hv, hp⟩ := isInt_get HC.out (i := j) (by rw [← HN.out]; exact hj));
       (have g1 := (hr1.block B (Array.getElem?_eq_some_iff.1 H0.out).1 (by omega)).trans H0.out);
       (have c1 : w1.cell? ⟨B, j, none⟩ = some (.int .i64 v) := by rw [cell_of_row _ _ _ _ _ _ g1]; exact hv);
       (have G1 := hide g1; clear g1); (have HV := hide hv; clear hv)))
  go_ret
  exact ⟨⟨v, rfl, hp⟩, hd1, hr0.trans hr1⟩
end Go.Proofs.Ytmhbncpiloffgaa
