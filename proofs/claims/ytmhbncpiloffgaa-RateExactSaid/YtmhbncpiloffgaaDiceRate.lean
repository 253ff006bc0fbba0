/- The walk of the statements' dice: Rate. -/
import Derived.Test.YtmhbncpiloffgaaDiceB
import Derived.Test.YtmhbncpiloffgaaRateWalk
namespace Go.Proofs.Ytmhbncpiloffgaa
open Go.RowKit
set_option linter.unusedVariables false

theorem RateOk.of_new {a b : Nat} (ha : 1 ≤ a ∧ a ≤ 4096) (hb : 1 ≤ b ∧ b ≤ 4096) : RateOk (a / Nat.gcd a b : Nat) (b / Nat.gcd a b : Nat) := by
  have gp : 0 < Nat.gcd a b := Nat.gcd_pos_of_pos_left _ (by omega)
  have h1 : 0 < a / Nat.gcd a b := Nat.div_pos (Nat.le_of_dvd (by omega) (Nat.gcd_dvd_left a b)) gp
  have h2 : 0 < b / Nat.gcd a b := Nat.div_pos (Nat.le_of_dvd (by omega) (Nat.gcd_dvd_right a b)) gp
  have h3 : a / Nat.gcd a b ≤ a := Nat.div_le_self _ _
  have h4 : b / Nat.gcd a b ≤ b := Nat.div_le_self _ _
  refine ⟨by omega, by omega, by omega, by omega, ?_⟩
  rw [Int.toNat_natCast, Int.toNat_natCast]
  exact Nat.gcd_div_gcd_div_gcd_of_pos_left (by omega)

theorem pair_alloc {w : World} {g : Nat} {c : Obj} (h : w.heap[g]? = some c) (o : Obj) : (w.alloc o).heap[g]? = some c := by
  rw [Below.heap_alloc _ _ _ (Array.getElem?_eq_some_iff.1 h).1]; exact h
theorem Die.setCell {W : World} {a : Option Addr} {len cap g : Nat} {w : World} (h : Die W a len cap g w) {p : Addr} (hg : g ≠ p.block) (hB : W.heap.size ≤ p.block) (v : Value) : Die W a len cap g (w.setCell p v) := by
  obtain ⟨i, h1, h2⟩ := h.spot
  exact ⟨h.row, h.big, h.low.setCell hB v, i, h1, (Below.heap_setCell _ _ _ _ hg).trans h2⟩
theorem Rolls.setCell {g B : Nat} {w0 w : World} (h : Rolls g w0 w) {p : Addr} (hB : w0.heap.size ≤ p.block) (v : Value) : Rolls g w0 (w.setCell p v) :=
  ⟨by have := h.size; simpa [World.setCell] using this, fun k hk hg => (Below.heap_setCell _ _ _ _ (by omega)).trans (h.block k hk hg)⟩
theorem made_rate {W : World} {a : Option Addr} {len cap g : Nat} (w : World) (hd : Die W a len cap g w) :
    Calls Try.prog 11 #[.pointer (some ⟨g, 0, none⟩)] w fun e w' => (∃ n d : Nat, e = .returned (.agg #[.int .i64 n, .int .i64 d]) ∧ RateOk n d) ∧ Die W a len cap g w' ∧ Rolls g w w' := by
  have lt := hd.lt
  have tok := lt
  go_enter Try.func11, Try.ntmps11
  go_wp2_with (first
    | (go_at_call 19; (with_reducible refine (made_pick (W := W) (a := a) (len := len) (cap := cap) (fun x => decide (1 ≤ x ∧ x ≤ 4096)) _ _ ?_ ?_ ?_ _ ?_ ?_).mono ?_); (focus rfl); (focus decide); (focus rfl); (focus exact hd.alloc _); (focus simp); clear tok; rintro e w1 ⟨⟨x, rfl, hx⟩, hd1, hr1⟩;
       (obtain ⟨m, rfl⟩ : ∃ m : Nat, x = (m : Int) := ⟨x.toNat, by simp at hx; omega⟩))
    | (go_at_call 19; (with_reducible refine (made_pick (W := W) (a := a) (len := len) (cap := cap) (fun x => decide (1 ≤ x ∧ x ≤ 4096)) _ _ ?_ ?_ ?_ _ ?_ ?_).mono ?_); (focus rfl); (focus decide); (focus rfl); (focus exact hd1); (focus rfl); rintro e w2 ⟨⟨y, rfl, hy⟩, hd2, hr2⟩;
       (obtain ⟨k, rfl⟩ : ∃ k : Nat, y = (k : Int) := ⟨y.toNat, by simp at hy; omega⟩);
       (have h2 := (hr2.block w.heap.size (Nat.lt_of_lt_of_le (by simp) hr1.size) (by omega)).trans ((hr1.block w.heap.size (by simp) (by omega)).trans (heap_alloc_new w _))))
    | (go_at_call 31; (with_reducible refine (ref_new_ok m k (by simp at hx; omega) (by simp at hy; omega) _).mono ?_); rintro e w3 ⟨rfl, hb3⟩;
       (have h3 := (hb3.block w.heap.size (Array.getElem?_eq_some_iff.1 h2).1).trans h2);
       (have h4 := fun o => pair_alloc h3 o); (have c0 := fun o => (pair_cells (h4 o)).1); (have c1 := fun o => (pair_cells (h4 o)).2.1); (have f0 := fun o => (pair_cells (h4 o)).2.2.1); (have f1 := fun o => (pair_cells (h4 o)).2.2.2);
       (have hok := hide (RateOk.of_new (a := m) (b := k) (by simp at hx; omega) (by simp at hy; omega)));
       (generalize m / Nat.gcd m k = n at *); (generalize k / Nat.gcd m k = d at *)))
  obtain ⟨z0, z1⟩ := pair_set_cells (h4 (.cells #[.int .i64 n, .int .i64 d] 27)) (.int .i64 n) (.int .i64 d)
  (try simp only [Exit.inBlock, Exit.then])
  refine bodyPost_ret (v := .agg #[.int .i64 n, .int .i64 d]) (by simp [results, Try.results11, go_sem, z0, z1]) rfl ⟨⟨n, d, rfl, hok.out⟩, ?_, ?_⟩
  · exact (((hd2.keep hb3).alloc _).setCell (by dsimp only; omega) (by have := hd.low.size; dsimp only; omega) _).setCell (by dsimp only; omega) (by have := hd.low.size; dsimp only; omega) _
  · exact ((((((Rolls.of_below (below1 _)).trans hr1).trans hr2).trans (Rolls.of_below hb3)).trans (Rolls.of_below (below1 _))).setCell (B := 0) (Nat.le_refl _) _).setCell (B := 0) (Nat.le_refl _) _
end Go.Proofs.Ytmhbncpiloffgaa
