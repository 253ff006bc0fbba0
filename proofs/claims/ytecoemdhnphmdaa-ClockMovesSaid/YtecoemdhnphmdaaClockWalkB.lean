/- The walks of the clock: agrees. -/
import Derived.Test.YtecoemdhnphmdaaClockWalk
import Derived.Deep.RegionHeld3
namespace Go.Proofs.Ytecoemdhnphmdaa
open Go.RowKit
set_option linter.unusedVariables false
set_option linter.unusedSimpArgs false
theorem grow_alloc {W w : World} {p : Prop} (h : Below W.heap.size W w ∧ p) (o : Obj) : Below W.heap.size W (w.alloc o) := h.1.alloc h.1.size o
theorem grow_drew {W w : World} {p : Prop} (h : Below W.heap.size W w ∧ p) : Below W.heap.size W w.drew := h.1.drew
theorem grow_set {W w : World} {p : Prop} (h : Below W.heap.size W w ∧ p) {a : Addr} (ha : W.heap.size ≤ a.block) (v : Value) : Below W.heap.size W (w.setCell a v) := h.1.setCell ha v
theorem grow_set2 {W w : World} {p : Prop} (h : Below W.heap.size W w ∧ p) {g i j : Nat} (ha : W.heap.size ≤ g) (v v' : Value) : Below W.heap.size W ((w.setCell ⟨g, i, none⟩ v).setCell ⟨g, j, none⟩ v') := (h.1.setCell ha v).setCell ha v'
theorem grow_call {W w w' : World} {p : Prop} (h : Below W.heap.size W w ∧ p) (hn : Below w.heap.size w w') : Below W.heap.size W w' := h.1.trans (hn.mono h.1.size)
set_option maxHeartbeats 4000000 in
theorem agrees_ok (a b : Anc) (x : Int) (ha : AncT a) (hx : 0 ≤ x ∧ x ≤ 500000) (hbt : AncT b) (w : World) :
    Calls Try.prog 38 #[.agg #[.int .i64 a.tag, .int .i64 a.low, .int .i64 a.high], .agg #[.int .i64 b.tag, .int .i64 b.low, .int .i64 b.high], .int .i64 x] w fun e w' => e = .returned (.bool (agr a b x)) ∧ Below w.heap.size w w' := by
  have q := hide (from_ok a x b.tag ha hx ⟨hbt.1, hbt.2.1⟩)
  have e0 := hide (show agr a b x = decide (max (frLo a x b.tag) b.low ≤ min (frHi a x b.tag) b.high) from rfl)
  generalize agr a b x = r at *
  generalize frLo a x b.tag = p at *
  generalize frHi a x b.tag = s at *
  have q2 := hide (common_ok p s b.low b.high)
  generalize max p b.low = y at *
  generalize min s b.high = z at *
  obtain ⟨tag, low, high⟩ := a
  obtain ⟨tag', low', high'⟩ := b
  simp only at q q2
  clear ha hbt hx
  go_enter Try.func38, Try.ntmps38
  go_wp2_with fail
  obtain ⟨c0, c1, c2⟩ := tri_cells (pair_alloc (heap_alloc_new w (.cells #[.int .i64 tag, .int .i64 low, .int .i64 high] 34)) (.cells #[.int .i64 tag', .int .i64 low', .int .i64 high'] 34))
  obtain ⟨d0, d1, d2⟩ := tri_cells (new_at (w := w.alloc (.cells #[.int .i64 tag, .int .i64 low, .int .i64 high] 34)) (.cells #[.int .i64 tag', .int .i64 low', .int .i64 high'] 34) (g := w.heap.size + 1) (by simp))
  have hB0 : Below w.heap.size w ((w.alloc (.cells #[.int .i64 tag, .int .i64 low, .int .i64 high] 34)).alloc (.cells #[.int .i64 tag', .int .i64 low', .int .i64 high'] 34)) := below2 _ _
  have hsz : ((w.alloc (.cells #[.int .i64 tag, .int .i64 low, .int .i64 high] 34)).alloc (.cells #[.int .i64 tag', .int .i64 low', .int .i64 high'] 34)).heap.size = w.heap.size + 2 := by simp
  generalize (w.alloc (.cells #[.int .i64 tag, .int .i64 low, .int .i64 high] 34)).alloc (.cells #[.int .i64 tag', .int .i64 low', .int .i64 high'] 34) = W at *
  generalize hg : w.heap.size = g at *
  have HG := hide hg
  clear hg
  have keepS : ∀ w' : World, Below W.heap.size W w' → (Below W.heap.size W w' ∧ w'.cell? ⟨g, 0, none⟩ = some (.int .i64 tag) ∧ w'.cell? ⟨g, 1, none⟩ = some (.int .i64 low) ∧ w'.cell? ⟨g, 2, none⟩ = some (.int .i64 high) ∧ w'.cell? ⟨g + 1, 0, none⟩ = some (.int .i64 tag') ∧ w'.cell? ⟨g + 1, 1, none⟩ = some (.int .i64 low') ∧ w'.cell? ⟨g + 1, 2, none⟩ = some (.int .i64 high')) := fun w' h =>
    ⟨h, by rw [h.cell (by simp; omega)]; exact c0, by rw [h.cell (by simp; omega)]; exact c1, by rw [h.cell (by simp; omega)]; exact c2, by rw [h.cell (by simp; omega)]; exact d0, by rw [h.cell (by simp; omega)]; exact d1, by rw [h.cell (by simp; omega)]; exact d2⟩
  have KS := hide keepS
  have HZ := hide hsz
  have HB0 := hide hB0
  clear keepS hsz hB0
  go_region_held3 (fun w' => Below W.heap.size W w' ∧ w'.cell? ⟨g, 0, none⟩ = some (.int .i64 tag) ∧ w'.cell? ⟨g, 1, none⟩ = some (.int .i64 low) ∧ w'.cell? ⟨g, 2, none⟩ = some (.int .i64 high) ∧ w'.cell? ⟨g + 1, 0, none⟩ = some (.int .i64 tag') ∧ w'.cell? ⟨g + 1, 1, none⟩ = some (.int .i64 low') ∧ w'.cell? ⟨g + 1, 2, none⟩ = some (.int .i64 high'))
    (first
      | (exact KS.out _ (Below.refl _ _).drew)
      | (exact KS.out _ hb)
      | (exact KS.out _ (grow_alloc (by assumption) _))
      | (exact KS.out _ (hb.alloc hz2 _))
      | (refine KS.out _ (grow_set2 (by assumption) ?_ _ _); (first | exact Nat.le_refl _ | assumption | (simp; omega))))
    ((first
      | (go_at_call 47; (with_reducible refine (q.out _).mono ?_); rintro e w1 ⟨rfl, hn⟩; (have hb := grow_call (W := W) (by assumption) hn); (have hz1 := hb.size);
          (try (have k9 : w1.heap[W.heap.size]? = some (.cells #[.int .i64 0, .int .i64 0] 70 (0, 0)) := (hn.block _ (by simp)).trans (new_at _ (by simp)); obtain ⟨k0, k1, k2, k3⟩ := pair_cells k9)))
      | (go_at_call 37; (with_reducible refine (q2.out _).mono ?_); rintro e w2 ⟨rfl, hn2⟩; (have hb := grow_call (W := W) (by assumption) hn2); (have hz2 := hb.size);
          (first | (have k8 : w2.heap[W.heap.size]? = some (.cells #[.int .i64 0, .int .i64 0] 70 (0, 0)) := (hn2.block _ (Array.getElem?_eq_some_iff.1 k9).1).trans k9; obtain ⟨k0', k1', k2', k3'⟩ := pair_cells k8; obtain ⟨z0, z1, _, _⟩ := pair_cells (pair_set k8 (.int .i64 y) (.int .i64 z))) | (have k8 : w2.heap[w1.heap.size]? = some (.cells #[.int .i64 0, .int .i64 0] 70 (0, 0)) := (hn2.block _ (by simp)).trans (new_at _ (by simp)); obtain ⟨k0', k1', k2', k3'⟩ := pair_cells k8; obtain ⟨z0, z1, _, _⟩ := pair_cells (pair_set k8 (.int .i64 y) (.int .i64 z))) | skip))))
  all_goals
    rename_i hS
    have hfin := hide ((HB0.out).trans (hS.1.mono (by have := HZ.out; omega)))
    clear hS c0 c1 c2 d0 d1 d2
    go_wp2
    go_ret
    exact ⟨by rw [e0.out]; first | rfl | simp, by rw [HG.out]; exact hfin.out⟩
end Go.Proofs.Ytecoemdhnphmdaa
