/- Source and Place of package keep. (written by gen_keepev.py) -/
import Derived.Test.YtlhphhiodckaaaaRule
import Derived.Test.YtlhphhiodckaaaaReg
namespace Go.Proofs.Ytlhphhiodckaaaa
open Go.RowKit
set_option linter.unusedVariables false
set_option linter.unusedSimpArgs false
theorem quad_cells {w : World} {g : Nat} {x y z u : Value} {t : TypeId} (h : w.heap[g]? = some (.cells #[x, y, z, u] t (0, 0))) :
    w.cell? ⟨g, 0, none⟩ = some x ∧ w.cell? ⟨g, 1, none⟩ = some y ∧ w.cell? ⟨g, 2, none⟩ = some z ∧ w.cell? ⟨g, 3, none⟩ = some u :=
  ⟨boxed_at h rfl, boxed_at h rfl, boxed_at h rfl, boxed_at h rfl⟩
theorem quad_frozen {w : World} {g : Nat} {x y z u : Value} {t : TypeId} (h : w.heap[g]? = some (.cells #[x, y, z, u] t (0, 0))) :
    w.frozen? ⟨g, 0, none⟩ = false ∧ w.frozen? ⟨g, 1, none⟩ = false ∧ w.frozen? ⟨g, 2, none⟩ = false ∧ w.frozen? ⟨g, 3, none⟩ = false :=
  ⟨frozen_of_row _ _ _ _ _ h, frozen_of_row _ _ _ _ _ h, frozen_of_row _ _ _ _ _ h, frozen_of_row _ _ _ _ _ h⟩
theorem quad_set {w : World} {g : Nat} {x y z u : Value} {t : TypeId} (h : w.heap[g]? = some (.cells #[x, y, z, u] t (0, 0))) (x' y' z' u' : Value) :
    ((((w.setCell ⟨g, 0, none⟩ x').setCell ⟨g, 1, none⟩ y').setCell ⟨g, 2, none⟩ z').setCell ⟨g, 3, none⟩ u').heap[g]? = some (.cells #[x', y', z', u'] t (0, 0)) := by
  rw [setCell_row (setCell_row (setCell_row (setCell_row h _) _) _) _]; rfl
theorem quad_below (g : Nat) (w : World) (x y z u : Value) : Below g w ((((w.setCell ⟨g, 0, none⟩ x).setCell ⟨g, 1, none⟩ y).setCell ⟨g, 2, none⟩ z).setCell ⟨g, 3, none⟩ u) :=
  Below.setCell (below3 g w x y z) (p := ⟨g, 3, none⟩) (Nat.le_refl g) u
def isStr : Value → Bool
  | .string _ => true
  | _ => false
theorem isStr_get {cs : Array Value} (h : cs.toList.all isStr = true) {i : Nat} (hi : i < cs.size) : ∃ x : ByteArray, cs[i]? = some (.string x) := by
  have hv : isStr cs[i] = true := (List.all_eq_true.1 h) _ (by simp)
  rw [Array.getElem?_eq_getElem hi]
  generalize cs[i] = v at hv
  match v, hv with
  | .string x, _ => exact ⟨x, rfl⟩
set_option maxHeartbeats 4000000 in
set_option maxRecDepth 100000 in
theorem keep_source (n : Int) (w : World) :
    Calls Try.prog 27 #[.int .i64 n] w fun e w' => (∃ s : ByteArray, e = .returned (.agg #[.string ⟨#[65, 66]⟩, .string s, .string ⟨#[48, 48]⟩, .string ⟨#[66, 72, 90]⟩])) ∧ Below w.heap.size w w' := by
  have Q := hide (fun w => keep_mod n 6 (by omega) w)
  obtain ⟨j, hj⟩ : ∃ j : Nat, n % 6 = (j : Int) := ⟨(n % 6).toNat, by omega⟩
  have hj6 : j < 6 := by omega
  rw [hj] at Q
  clear hj
  have HB := hide (below2 (w := w) (.cells #[.string ⟨#[]⟩, .string ⟨#[]⟩, .string ⟨#[]⟩, .string ⟨#[]⟩] 28) (.cells #[.string ⟨#[83, 49]⟩, .string ⟨#[83, 50]⟩, .string ⟨#[83, 51]⟩, .string ⟨#[83, 52]⟩, .string ⟨#[83, 53]⟩, .string ⟨#[83, 54]⟩] 9))
  have G0 := hide (pair_alloc (heap_alloc_new w (.cells #[.string ⟨#[]⟩, .string ⟨#[]⟩, .string ⟨#[]⟩, .string ⟨#[]⟩] 28)) (.cells #[.string ⟨#[83, 49]⟩, .string ⟨#[83, 50]⟩, .string ⟨#[83, 51]⟩, .string ⟨#[83, 52]⟩, .string ⟨#[83, 53]⟩, .string ⟨#[83, 54]⟩] 9))
  have G1 := hide (new_at (w := w.alloc (.cells #[.string ⟨#[]⟩, .string ⟨#[]⟩, .string ⟨#[]⟩, .string ⟨#[]⟩] 28)) (.cells #[.string ⟨#[83, 49]⟩, .string ⟨#[83, 50]⟩, .string ⟨#[83, 51]⟩, .string ⟨#[83, 52]⟩, .string ⟨#[83, 53]⟩, .string ⟨#[83, 54]⟩] 9) (g := w.heap.size + 1) (by simp))
  go_enter Try.func27, Try.ntmps27
  go_wp2_with fail
  generalize (w.alloc (.cells #[.string ⟨#[]⟩, .string ⟨#[]⟩, .string ⟨#[]⟩, .string ⟨#[]⟩] 28)).alloc (.cells #[.string ⟨#[83, 49]⟩, .string ⟨#[83, 50]⟩, .string ⟨#[83, 51]⟩, .string ⟨#[83, 52]⟩, .string ⟨#[83, 53]⟩, .string ⟨#[83, 54]⟩] 9) = V at HB G0 G1 ⊢
  obtain ⟨s, hs⟩ := isStr_get (cs := #[.string ⟨#[83, 49]⟩, .string ⟨#[83, 50]⟩, .string ⟨#[83, 51]⟩, .string ⟨#[83, 52]⟩, .string ⟨#[83, 53]⟩, .string ⟨#[83, 54]⟩]) rfl (i := j) hj6
  have c1 : V.cell? ⟨w.heap.size + 1, j, none⟩ = some (.string s) := boxed_at G1.out hs
  have HS := hide hs
  clear hs
  obtain ⟨x0, x1, x2, x3⟩ := quad_cells G0.out
  obtain ⟨f0, f1, f2, f3⟩ := quad_frozen G0.out
  obtain ⟨z0, z1, z2, z3⟩ := quad_cells (quad_set G0.out (.string ⟨#[65, 66]⟩) (.string s) (.string ⟨#[48, 48]⟩) (.string ⟨#[66, 72, 90]⟩))
  have hbl := quad_below w.heap.size V (.string ⟨#[65, 66]⟩) (.string s) (.string ⟨#[48, 48]⟩) (.string ⟨#[66, 72, 90]⟩)
  have HBL := hide hbl
  clear hbl
  go_wp2_with (first
    | (go_at_call 19; (with_reducible refine (Q.out _).mono ?_); rintro e w1 ⟨rfl, rfl⟩))
  (try simp only [Exit.inBlock, Exit.then])
  refine bodyPost_ret (v := .agg #[.string ⟨#[65, 66]⟩, .string s, .string ⟨#[48, 48]⟩, .string ⟨#[66, 72, 90]⟩]) (by simp [results, Try.results27, go_sem, z0, z1, z2, z3]) rfl ⟨⟨s, rfl⟩, HB.out.trans (HBL.out.mono (Nat.le_refl _))⟩
set_option maxHeartbeats 4000000 in
set_option maxRecDepth 100000 in
theorem keep_place {W : World} {a : Option Addr} {len cap g : Nat} (m : Int) (hm : 0 ≤ m ∧ m ≤ 1000000) (w : World) (hd : Src W a len cap g w) :
    Calls Try.prog 28 #[.pointer (some ⟨g, 0, none⟩), .int .i64 m] w fun e w' => (∃ x y z : Int, e = .returned (.agg #[.int .i64 x, .int .i64 y, .int .i64 z]) ∧ (-m ≤ x ∧ x ≤ m) ∧ (-m ≤ y ∧ y ≤ m) ∧ (0 ≤ z ∧ z ≤ m)) ∧ Src W a len cap g w' ∧ Rolls g w w' := by
  have hgB : g < w.heap.size := hd.lt
  have HD := hide hd
  clear hd
  obtain ⟨hm0, hm1⟩ := hm
  go_enter Try.func28, Try.ntmps28
  have G2 := hide (heap_alloc_new w (.cells #[.int .i64 0, .int .i64 0, .int .i64 0] 33))
  go_wp2_with (first
    | (go_at_call 20; (with_reducible refine (keep_n W a len cap g _ ?_ _ (HD.out.alloc _)).mono ?_); (focus omega); rintro e w1 ⟨⟨x, rfl, x0, x1⟩, hd1, hr1⟩; (have HD1 := hide hd1); (have G2 := hide (hr1.blk G2.out (by omega))); (have HR := hide ((Rolls.of_below (below1 _)).trans hr1)); clear hd1 hr1)
    | (go_at_call 20; (with_reducible refine (keep_n W a len cap g (2 * m + 1) ?_ _ HD1.out).mono ?_); (focus omega); rintro e w2 ⟨⟨y, rfl, y0, y1⟩, hd1, hr1⟩; (have HD1 := hide hd1); (have G2 := hide (hr1.blk G2.out (by omega))); (have HR := hide (HR.out.trans hr1)); clear hd1 hr1)
    | (go_at_call 20; (with_reducible refine (keep_n W a len cap g (m + 1) ?_ _ HD1.out).mono ?_); (focus omega); rintro e w3 ⟨⟨z, rfl, z0, z1⟩, hd1, hr1⟩; (have HD1 := hide hd1); (have G2 := hide (hr1.blk G2.out (by omega))); (have HR := hide (HR.out.trans hr1)); clear hd1 hr1; (obtain ⟨c0, c1, c2, f0, f1, f2⟩ := tri_cells G2.out)))
  obtain ⟨z0', z1', z2', -, -, -⟩ := tri_cells (tri_set G2.out (.int .i64 (x - m)) (.int .i64 (y - m)) (.int .i64 z))
  have HBL := hide (below3 w.heap.size w3 (.int .i64 (x - m)) (.int .i64 (y - m)) (.int .i64 z))
  (try simp only [Exit.inBlock, Exit.then])
  refine bodyPost_ret (v := .agg #[.int .i64 (x - m), .int .i64 (y - m), .int .i64 z]) (by simp [results, Try.results28, go_sem, z0', z1', z2']) rfl ⟨⟨_, _, _, rfl, ⟨by omega, by omega⟩, ⟨by omega, by omega⟩, by omega, by omega⟩, HD1.out.keepB HBL.out (by omega) (by have := HD.out.low.size; omega), ⟨Nat.le_trans HR.out.size HBL.out.size, fun k hk hg => (HBL.out.block k hk).trans (HR.out.block k hk hg)⟩⟩

end Go.Proofs.Ytlhphhiodckaaaa
