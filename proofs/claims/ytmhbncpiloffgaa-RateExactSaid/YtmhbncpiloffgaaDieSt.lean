/- Later worlds of a walk with dice: the dice lie as they lay, all else stays; Pick from any block. -/
import Derived.Test.YtmhbncpiloffgaaDiceB
import Derived.Deep.MidRow
namespace Go.Proofs.Ytmhbncpiloffgaa
open Go.RowKit
set_option linter.unusedVariables false
theorem IntRow.keep {w w' : World} {a : Option Addr} {len : Nat} (h : IntRow w a len) (hb : Below w.heap.size w w') : IntRow w' a len := by
  obtain ⟨h1, h2⟩ := h
  refine ⟨h1, ?_⟩
  rcases h2 with h2 | ⟨b, off, rfl, hc⟩
  · exact .inl h2
  · refine .inr ⟨b, off, rfl, fun i hi => ?_⟩
    obtain ⟨x, h1, h2⟩ := hc i hi
    exact ⟨x, by rw [hb.cell (block_lt_of_cell h1)]; exact h1, h2⟩
theorem Rolls.blk {g k : Nat} {w w' : World} {o : Obj} (h : Rolls g w w') (hk : w.heap[k]? = some o) (hg : k ≠ g) : w'.heap[k]? = some o := (h.block k (Array.getElem?_eq_some_iff.1 hk).1 hg).trans hk
theorem heap_keep {w w' : World} {g : Nat} {o : Obj} (hb : Below w.heap.size w w') (h : w.heap[g]? = some o) : w'.heap[g]? = some o := (hb.block _ (Array.getElem?_eq_some_iff.1 h).1).trans h
theorem heap_on {w : World} {g : Nat} {c : Obj} (h : w.heap[g]? = some c) (o : Obj) : (w.alloc o).heap[g]? = some c := by
  rw [Below.heap_alloc _ _ _ (Array.getElem?_eq_some_iff.1 h).1]; exact h
theorem heap_lt {w : World} {g : Nat} {c : Obj} (h : w.heap[g]? = some c) : g < w.heap.size := (Array.getElem?_eq_some_iff.1 h).1
theorem range_blk {w w' : World} {b o : Nat} {cs : List Value} (h : w.rangeAt b o cs) (hb : b < w.heap.size → w'.heap[b]? = w.heap[b]?) : w'.rangeAt b o cs := fun j v hv => by
  have h1 := h j v hv
  rw [World.cell?_of_block (hb (block_lt_of_cell h1))]
  exact h1
structure St (W : World) (a : Option Addr) (len cap g : Nat) (V w : World) : Prop where
  die : Die W a len cap g w
  roll : Rolls g V w
section
variable {W : World} {a : Option Addr} {len cap g : Nat} {V w w' : World}
theorem St.start (h : Die W a len cap g V) : St W a len cap g V V := ⟨h, Rolls.refl _ _⟩
theorem St.below (h : St W a len cap g V w) (hb : Below w.heap.size w w') : St W a len cap g V w' := ⟨h.die.keep hb, h.roll.trans (Rolls.of_below hb)⟩
theorem St.alloc (h : St W a len cap g V w) (o : Obj) : St W a len cap g V (w.alloc o) := h.below (below1 o)
theorem St.drew (h : St W a len cap g V w) : St W a len cap g V w.drew := h.below (Below.refl _ _).drew
theorem St.rolls (h : St W a len cap g V w) (hd : Die W a len cap g w') (hr : Rolls g w w') : St W a len cap g V w' := ⟨hd, h.roll.trans hr⟩
theorem St.trans (h : St W a len cap g V w) (k : St W a len cap g w w') : St W a len cap g V w' := ⟨k.die, h.roll.trans k.roll⟩
theorem St.blk (h : St W a len cap g V w) {k : Nat} {o : Obj} (hg : V.heap[k]? = some o) (hne : k ≠ g) : w.heap[k]? = some o := (h.roll.block k (Array.getElem?_eq_some_iff.1 hg).1 hne).trans hg
theorem St.range (h : St W a len cap g V w) {b o : Nat} {cs : List Value} (hr : V.rangeAt b o cs) (hne : b ≠ g) : w.rangeAt b o cs := range_blk hr fun hl => h.roll.block b hl hne
theorem St.cell (h : St W a len cap g V w) {b o : Nat} {v : Value} (hc : V.cell? ⟨b, o, none⟩ = some v) (hne : b ≠ g) : w.cell? ⟨b, o, none⟩ = some v := (World.cell?_of_block (h.roll.block b (block_lt_of_cell hc) hne)).trans hc
end
theorem boxed_at {w : World} {g i : Nat} {cs : Array Value} {t : TypeId} {v : Value} (h : w.heap[g]? = some (.cells cs t (0, 0))) (hv : cs[i]? = some v) : w.cell? ⟨g, i, none⟩ = some v := by rw [cell_of_row _ _ _ _ _ _ h]; exact hv
theorem made_pick2 {W : World} {a : Option Addr} {len cap g : Nat} (p : Int → Bool) (cs : Array Value) (n : Nat) (hn : n = cs.size) (hn1 : 1 ≤ n ∧ n ≤ 1000) (hcs : cs.toList.all (isInt p) = true) (X : World) (hd : Die W a len cap g X) {B : Nat} {t : TypeId} (hB : X.heap[B]? = some (.cells cs t (0, 0))) (hne : B ≠ g) :
    Calls Try.prog 19 #[.pointer (some ⟨g, 0, none⟩), .slice (some ⟨B, 0, none⟩) n n] X fun e w' => (∃ x : Int, e = .returned (.int .i64 x) ∧ p x = true) ∧ Die W a len cap g w' ∧ Rolls g X w' := by
  have Q := hide (made_next W a len cap g (n : Int) ⟨by omega, by omega⟩ X hd)
  obtain ⟨n1, n2⟩ := hn1
  have H0 := hide hB
  have HC := hide hcs
  have HN := hide hn
  clear hB hd hcs hn
  go_enter Try.func19, Try.ntmps19
  go_wp2_with (first
    | (go_at_call 17; (with_reducible refine (Q.out).mono ?_); rintro e w1 ⟨⟨x, rfl, x0, x1⟩, hd1, hr1⟩;
       (obtain ⟨j, rfl⟩ : ∃ j : Nat, x = (j : Int) := ⟨x.toNat, by omega⟩);
       (have hj : j < n := by omega);
       (obtain ⟨v, hv, hp⟩ := isInt_get HC.out (i := j) (by rw [← HN.out]; exact hj));
       (have g1 := hr1.blk H0.out hne);
       (have c1 : w1.cell? ⟨B, j, none⟩ = some (.int .i64 v) := by rw [cell_of_row _ _ _ _ _ _ g1]; exact hv);
       (have G1 := hide g1; clear g1); (have HV := hide hv; clear hv)))
  go_ret
  exact ⟨⟨v, rfl, hp⟩, hd1, hr1⟩
end Go.Proofs.Ytmhbncpiloffgaa
