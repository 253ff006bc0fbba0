/- BentPolicy of package keep. (written by gen_bent.py) -/
import Derived.Test.YtlhphhiodckaaaaMovedC
namespace Go.Proofs.Ytlhphhiodckaaaa
open Go.RowKit
set_option linter.unusedVariables false
set_option linter.unusedSimpArgs false
def Rl.upd (r : Rl) (k : Nat) (v : Int) : Rl := match k with
  | 0 => { r with m := v }
  | 1 => { r with p := v }
  | 2 => { r with f := v }
  | _ => { r with d := v }
theorem rlVals_set : ∀ (L : List Rl) (i k : Nat) (v : Int) (hi : i < L.length), k < 4 → (rlVals L).set (i * 4 + k) (.int .i64 v) = rlVals (L.set i ((L[i]'hi).upd k v))
  | [], i, k, v, hi, _ => by simp at hi
  | r :: L, 0, k, v, hi, hk => by
    match k, hk with
    | 0, _ => simp [rlVals, Rl.upd]
    | 1, _ => simp [rlVals, Rl.upd]
    | 2, _ => simp [rlVals, Rl.upd]
    | 3, _ => simp [rlVals, Rl.upd]
  | r :: L, i + 1, k, v, hi, hk => by
    have ih := rlVals_set L i k v (by simpa using hi) hk
    rw [show (i + 1) * 4 + k = i * 4 + k + 1 + 1 + 1 + 1 by omega]
    simp only [rlVals, List.cons_append, List.nil_append, List.set_cons_succ, List.getElem_cons_succ]
    rw [ih]
/-- The row of rules that BentPolicy makes: its block. -/
def RowB (w : World) (gg : Nat) (L : List Rl) : Prop := ∃ cur : Array Value, w.heap[gg]? = some (.cells cur 26 (0, 0)) ∧ cur.toList.take (L.length * 4) = rlVals L ∧ L.length * 4 ≤ cur.size
theorem RowB.heap {w w' : World} {gg : Nat} {L : List Rl} (h : RowB w gg L) (hh : w'.heap[gg]? = w.heap[gg]?) : RowB w' gg L := by
  obtain ⟨cur, h1, h2, h3⟩ := h
  exact ⟨cur, hh.trans h1, h2, h3⟩
theorem RowB.lt {w : World} {gg : Nat} {L : List Rl} (h : RowB w gg L) : gg < w.heap.size := by
  obtain ⟨cur, h1, -, -⟩ := h
  exact (Array.getElem?_eq_some_iff.1 h1).1
theorem RowB.set {w : World} {gg : Nat} {L : List Rl} (h : RowB w gg L) (i k : Nat) (v : Int) (hi : i < L.length) (hk : k < 4) : RowB (w.setCell ⟨gg, i * 4 + k, none⟩ (.int .i64 v)) gg (L.set i (L[i].upd k v)) := by
  obtain ⟨cur, h1, h2, h3⟩ := h
  refine ⟨cur.setIfInBounds (i * 4 + k) (.int .i64 v), setCell_row h1 _, ?_, by simpa using h3⟩
  rw [List.length_set, Array.toList_setIfInBounds, List.take_set, h2, rlVals_set L i k v hi hk]
theorem RowB.cell {w : World} {gg : Nat} {L : List Rl} (h : RowB w gg L) (j : Nat) (hj : j < L.length * 4) : ∃ v : Value, w.cell? ⟨gg, j, none⟩ = some v ∧ w.frozen? ⟨gg, j, none⟩ = false := by
  obtain ⟨cur, h1, h2, h3⟩ := h
  exact ⟨cur[j], by rw [cell_of_row _ _ _ _ _ _ h1, Array.getElem?_eq_getElem (by omega)], frozen_of_row _ _ _ _ _ h1⟩
theorem RowB.row {w : World} {gg : Nat} {L : List Rl} (h : RowB w gg L) : RlRow w (some ⟨gg, 0, none⟩) L.length L := by
  obtain ⟨cur, h1, h2, h3⟩ := h
  refine ⟨rfl, .inr ⟨gg, 0, rfl, fun i hi => ?_⟩⟩
  have hc : ∀ k, k < 4 → ∀ v, (rlVals L)[i * 4 + k]? = some v → w.cell? ⟨gg, 0 + i * 4 + k, none⟩ = some v := fun k hk v hv => by
    rw [← h2, List.getElem?_take] at hv
    split at hv
    · rw [cell_of_row _ _ _ _ _ _ h1, Nat.zero_add, ← Array.getElem?_toList]; exact hv
    · cases hv
  obtain ⟨a, b, c, d⟩ := rlVals_get L i hi
  exact ⟨hc 0 (by omega) _ a, hc 1 (by omega) _ b, hc 2 (by omega) _ c, hc 3 (by omega) _ d⟩
theorem rlVals_one : ∀ (L : List Rl), ∀ u ∈ rlVals L, u.oneCell' = true
  | [], u, h => by simp [rlVals] at h
  | r :: L, u, h => by
    simp only [rlVals, List.cons_append, List.nil_append, List.mem_cons] at h
    rcases h with h | h | h | h | h
    · subst h; rfl
    · subst h; rfl
    · subst h; rfl
    · subst h; rfl
    · exact rlVals_one L u h
theorem rlRow_news {w : World} {b off n : Nat} {L : List Rl} (h : RlRow w (some ⟨b, off, none⟩) n L) : ∀ j u, (rlVals L)[j]? = some u → w.cell? ((⟨b, off, none⟩ : Addr).add j) = some u := fun j u hu => by
  have hl := rlVals_length L
  have hj : j < (rlVals L).length := (List.getElem?_eq_some_iff.1 hu).1
  obtain ⟨hn, h0 | ⟨b', off', hp, hc⟩⟩ := h
  · omega
  · injection hp with hp
    injection hp with e1 e2
    subst e1; subst e2
    rw [Addr.add_mid]
    obtain ⟨i, k, hk, rfl⟩ : ∃ i k, k < 4 ∧ j = i * 4 + k := ⟨j / 4, j % 4, by omega, by omega⟩
    have hi : i < L.length := by omega
    obtain ⟨a1, a2, a3, a4⟩ := hc i hi
    obtain ⟨g1, g2, g3, g4⟩ := rlVals_get L i hi
    match k, hk, hu with
    | 0, _, hu => rw [Nat.add_zero, g1] at hu; cases hu; exact a1
    | 1, _, hu => rw [g2] at hu; cases hu; exact a2
    | 2, _, hu => rw [g3] at hu; cases hu; exact a3
    | 3, _, hu => rw [g4] at hu; cases hu; exact a4

set_option maxHeartbeats 8000000 in
set_option maxRecDepth 100000 in
theorem keep_bent {W : World} {a : Option Addr} {len cap g : Nat} (L : List Rl) (di ev : Int) (bb off c : Nat) (hL : 1 ≤ L.length ∧ L.length ≤ 3) (w : World) (hd : Src W a len cap g w) (hr : RlRow w (some ⟨bb, off, none⟩) L.length L) (hbg : bb ≠ g) :
    Calls Try.prog 12 #[.pointer (some ⟨g, 0, none⟩), .agg #[.slice (some ⟨bb, off, none⟩) L.length c, .int .i64 di, .int .i64 ev]] w fun en w' => (∃ (L' : List Rl) (di' ev' : Int) (p' : Option Addr) (c' : Nat), en = .returned (.agg #[.slice p' L'.length c', .int .i64 di', .int .i64 ev']) ∧ RlRow w' p' L'.length L' ∧ L'.length ≤ 3 ∧ ∀ b off, p' = some ⟨b, off, none⟩ → w.heap.size ≤ b) ∧ Src W a len cap g w' ∧ Rolls g w w' := by
  obtain ⟨i0, hi0, hz0, hz1, hz2⟩ := info_parts info_rule
  obtain ⟨hL1, hL3⟩ := hL
  have hgB : g < w.heap.size := hd.lt
  have hWB : W.heap.size ≤ w.heap.size := hd.low.size
  have G3 := hide (pair_alloc (heap_alloc_new w (.cells #[.slice (some ⟨bb, off, none⟩) L.length c, .int .i64 di, .int .i64 ev] 24)) (.cells #[.slice none 0 0, .int .i64 0, .int .i64 0] 24))
  have G4 := hide (new_at (w := w.alloc (.cells #[.slice (some ⟨bb, off, none⟩) L.length c, .int .i64 di, .int .i64 ev] 24)) (.cells #[.slice none 0 0, .int .i64 0, .int .i64 0] 24) (g := w.heap.size + 1) (by simp))
  have HD := hide ((hd.alloc (.cells #[.slice (some ⟨bb, off, none⟩) L.length c, .int .i64 di, .int .i64 ev] 24)).alloc (.cells #[.slice none 0 0, .int .i64 0, .int .i64 0] 24))
  have HRW := hide ((hr.keep (below1 (.cells #[.slice (some ⟨bb, off, none⟩) L.length c, .int .i64 di, .int .i64 ev] 24))).keep (below1 (.cells #[.slice none 0 0, .int .i64 0, .int .i64 0] 24)))
  have HR := hide (Rolls.of_below (g := g) (below2 (w := w) (.cells #[.slice (some ⟨bb, off, none⟩) L.length c, .int .i64 di, .int .i64 ev] 24) (.cells #[.slice none 0 0, .int .i64 0, .int .i64 0] 24)))
  have HSZ := hide (show ((w.alloc (.cells #[.slice (some ⟨bb, off, none⟩) L.length c, .int .i64 di, .int .i64 ev] 24)).alloc (.cells #[.slice none 0 0, .int .i64 0, .int .i64 0] 24)).heap.size = w.heap.size + 1 + 1 from by simp)
  clear hd hr
  go_enter Try.func12, Try.ntmps12
  go_upto_region 1 with fail
  generalize (w.alloc (.cells #[.slice (some ⟨bb, off, none⟩) L.length c, .int .i64 di, .int .i64 ev] 24)).alloc (.cells #[.slice none 0 0, .int .i64 0, .int .i64 0] 24) = V at G3 G4 HD HRW HR HSZ ⊢
  have HOWN := hide (World.ownsRow_made (base := V.heap.size) (e := 26) (size := 4) V #[] 0 (Nat.le_refl _) (by unfold maxLen; omega) (by simp))
  have HNEWS := hide (rlRow_news (HRW.out.keep (below1 (.cells #[] 26))))
  have l0 := fun o => (tri_cells (pair_alloc G3.out o)).1
  go_upto_region 2 with (first
    | (refine wpList_append_lies _ (by rfl) (.tmp 7) (.tmp 9) 22 (by rfl) V.heap.size 26 i0 _ 4 32 Try.underlying22 hi0 hz0 hz1 hz2 rfl (by decide) (.slice (some ⟨V.heap.size, 0, none⟩) 0 0) 0 [] (by rfl) ?_ ⟨bb, off, none⟩ L.length c (rlVals L) (by rfl) (rlVals_length L) ?_ (rlVals_one L) (by omega) (by unfold maxLen; omega) (by omega) (by simp) (V.heap.size + 1) (by simp) ?_; (focus exact HOWN.out); (focus exact HNEWS.out);
       intro gg cg w1 hown hgrow hat hlt;
       (have HBL := hide (show Below V.heap.size V w1 from ((Below.refl _ V).alloc (Nat.le_refl _) (.cells #[] 26)).grown hgrow (by simp) (fun k hk => by simp [Value.ownBlock] at hk; omega)));
       (have HGG := hide (show V.heap.size ≤ gg from (by rcases hat with h | h; (simp [Value.ownBlock] at h; omega); omega)));
       (have HOW := hide hown); clear hown hgrow hat l0;
       (obtain ⟨s0, -, -, sf, -, -⟩ := tri_cells ((HBL.out.block _ (by have := HSZ.out; omega)).trans G3.out))))
  clear s0 sf
  have HB3 := hide (Below.setCell (p := ⟨w.heap.size, 0, none⟩) ((HBL.out).mono (show w.heap.size ≤ V.heap.size by have := HSZ.out; omega)) (Nat.le_refl _) (.slice (some ⟨gg, 0, none⟩) L.length cg))
  have G3 := hide ((setCell_row (((HBL.out.block _ (by have := HSZ.out; omega)).trans G3.out)) (.slice (some ⟨gg, 0, none⟩) L.length cg) (i := 0)).trans (show _ = some (.cells #[.slice (some ⟨gg, 0, none⟩) L.length cg, .int .i64 di, .int .i64 ev] 24 (0, 0)) from rfl))
  have G4 := hide ((Below.heap_setCell w1 ⟨w.heap.size, 0, none⟩ (.slice (some ⟨gg, 0, none⟩) L.length cg) _ (show w.heap.size + 1 ≠ w.heap.size by omega)).trans ((HBL.out.block _ (by have := HSZ.out; omega)).trans G4.out))
  have HG3 := hide (show w.heap.size + 1 < gg from by have := HSZ.out; have := HGG.out; omega)
  have HRB := hide (show RowB (w1.setCell ⟨w.heap.size, 0, none⟩ (.slice (some ⟨gg, 0, none⟩) L.length cg)) gg L from by
    obtain ⟨-, ⟨h, -⟩ | ⟨g', cap', cur, h1, h2, h3, h4, h5, h6, h7⟩⟩ := HOW.out
    · cases h
    · injection h1 with h1 h8 h9
      injection h1 with h1
      injection h1 with h1
      subst h1
      refine ⟨cur, (Below.heap_setCell _ _ _ _ (show gg ≠ w.heap.size by have := HG3.out; omega)).trans h3, ?_, ?_⟩
      · rw [Nat.zero_add] at h7; exact h7
      · rw [h6]; omega)
  have HD := hide (HD.out.keepB HB3.out (by have := HD.out.big; omega) hWB)
  have HR := hide (show Rolls g w (w1.setCell ⟨w.heap.size, 0, none⟩ (.slice (some ⟨gg, 0, none⟩) L.length cg)) from ⟨by have := HB3.out.size; have := HSZ.out; omega, fun k hk hg => (HB3.out.block k hk).trans (HR.out.block k hk hg)⟩)
  clear HB3 HBL HGG HOW HSZ HRW HOWN HNEWS
  generalize w1.setCell ⟨w.heap.size, 0, none⟩ (.slice (some ⟨gg, 0, none⟩) L.length cg) = w2 at G3 G4 HRB HD HR ⊢
  obtain ⟨c0, c1, c2, -, -, -⟩ := tri_cells G3.out
  have dl : ((L.length : Int) == 0) = false := by rw [beq_eq_false_iff_ne]; omega
  have dl' : (L.length == 0) = false := by rw [beq_eq_false_iff_ne]; omega
  go_upto_block 0 with (first
    | (go_at_call 26; (with_reducible refine (keep_pick2 (fun _ => true) _ 5 rfl (by omega) rfl _ (HD.out.alloc _) (heap_alloc_new w2 (.cells #[.int .i64 (-1), .int .i64 0, .int .i64 1, .int .i64 9007199254740992, .int .i64 9007199254740993] 3)) (by have := HD.out.lt; omega)).mono ?_); rintro e w3 ⟨⟨odd, rfl, -⟩, hd1, hr1⟩; (have hr1 := (Rolls.of_below (g := g) (below1 (w := w2) (.cells #[.int .i64 (-1), .int .i64 0, .int .i64 1, .int .i64 9007199254740992, .int .i64 9007199254740993] 3))).trans hr1); (have G3 := hide (hr1.blk G3.out (by omega))); (have G4 := hide (hr1.blk G4.out (by omega))); (have HRB := hide (HRB.out.heap (hr1.block gg (by first | exact HRB.out.lt | (have := HRB.out.lt; simp; omega)) (by have := HG3.out; omega)))); (have HR := hide (HR.out.trans hr1)); (have HD := hide hd1); (obtain ⟨c0, c1, c2, -, -, -⟩ := tri_cells G3.out); clear hd1 hr1)
    | (go_at_call 20; (with_reducible refine (keep_n W a len cap g (L.length : Nat) ⟨by omega, by omega⟩ _ HD.out).mono ?_); rintro e w4 ⟨⟨y, rfl, y0, y1⟩, hd1, hr1⟩; (obtain ⟨j, rfl⟩ : ∃ j : Nat, y = (j : Int) := ⟨y.toNat, by omega⟩); (have G3 := hide (hr1.blk G3.out (by omega))); (have G4 := hide (hr1.blk G4.out (by omega))); (have HRB := hide (HRB.out.heap (hr1.block gg (by first | exact HRB.out.lt | (have := HRB.out.lt; simp; omega)) (by have := HG3.out; omega)))); (have HR := hide (HR.out.trans hr1)); (have HD := hide hd1); (obtain ⟨c0, c1, c2, -, -, -⟩ := tri_cells G3.out); clear hd1 hr1)
    | (go_at_call 20; (with_reducible refine (keep_n W a len cap g 7 ⟨by omega, by omega⟩ _ HD.out).mono ?_); rintro e w5 ⟨⟨z, rfl, z0, z1⟩, hd1, hr1⟩; (have G3 := hide (hr1.blk G3.out (by omega))); (have G4 := hide (hr1.blk G4.out (by omega))); (have HRB := hide (HRB.out.heap (hr1.block gg (by first | exact HRB.out.lt | (have := HRB.out.lt; simp; omega)) (by have := HG3.out; omega)))); (have HR := hide (HR.out.trans hr1)); (have HD := hide hd1); (obtain ⟨c0, c1, c2, -, -, -⟩ := tri_cells G3.out); clear hd1 hr1))
  clear c0 c1 c2 dl dl'
  have hjL : j < L.length := by omega
  have hjI : (j : Int) < (L.length : Int) := by omega
  go_cut [] from 27 to 71 (fun wx => ∃ (L' : List Rl) (sl : Value) (di' ev' : Int), ((sl = .slice none 0 0 ∧ L' = []) ∨ (sl = .slice (some ⟨gg, 0, none⟩) L.length cg ∧ L'.length = L.length ∧ Hid (RowB wx gg L'))) ∧ Hid (wx.heap[w.heap.size]? = some (.cells #[sl, .int .i64 di', .int .i64 ev'] 24 (0, 0))) ∧ Hid (wx.heap[w.heap.size + 1]? = some (.cells #[.slice none 0 0, .int .i64 0, .int .i64 0] 24)) ∧ Hid (Src W a len cap g wx) ∧ Hid (Rolls g w wx))
  case first =>
    have hz : z = 0 ∨ z = 1 ∨ z = 2 ∨ z = 3 ∨ z = 4 ∨ z = 5 ∨ z = 6 := by omega
    obtain ⟨c0, c1, c2, f0, f1, f2⟩ := tri_cells G3.out
    clear z0 z1
    rcases hz with rfl | rfl | rfl | rfl | rfl | rfl | rfl
    · go_wp2_with fail
      go_meet
      exact ⟨L, .slice (some ⟨gg, 0, none⟩) L.length cg, odd, ev, .inr ⟨rfl, rfl, hide (HRB.out.heap (Below.heap_setCell _ _ _ _ (show gg ≠ w.heap.size by have := HG3.out; omega)))⟩, hide ((setCell_row G3.out _ (i := 1)).trans rfl), hide ((Below.heap_setCell _ _ _ _ (show w.heap.size + 1 ≠ w.heap.size by omega)).trans G4.out), hide (HD.out.keepB (Below.setCell (Below.refl w.heap.size w5) (p := ⟨w.heap.size, 1, none⟩) (Nat.le_refl _) _) (by omega) (by omega)), hide (HR.out.sets (k := w.heap.size) [.int .i64 odd] 1 (by omega))⟩
    · go_wp2_with fail
      go_meet
      exact ⟨L, .slice (some ⟨gg, 0, none⟩) L.length cg, di, odd, .inr ⟨rfl, rfl, hide (HRB.out.heap (Below.heap_setCell _ _ _ _ (show gg ≠ w.heap.size by have := HG3.out; omega)))⟩, hide ((setCell_row G3.out _ (i := 2)).trans rfl), hide ((Below.heap_setCell _ _ _ _ (show w.heap.size + 1 ≠ w.heap.size by omega)).trans G4.out), hide (HD.out.keepB (Below.setCell (Below.refl w.heap.size w5) (p := ⟨w.heap.size, 2, none⟩) (Nat.le_refl _) _) (by omega) (by omega)), hide (HR.out.sets (k := w.heap.size) [.int .i64 odd] 2 (by omega))⟩
    · have l0 := fun o => (tri_cells (pair_alloc G3.out o)).1
      go_upto_region 13 with fail
      obtain ⟨vv, x0, xf⟩ := HRB.out.cell (j * 4) (by omega)
      go_region_with ((first
        | (go_at_call 26; (with_reducible refine (keep_pick2 (fun _ => true) _ 4 rfl (by omega) rfl _ (HD.out.alloc (.cells #[.int .i64 (-1001), .int .i64 (-1000), .int .i64 2000, .int .i64 2001] 3)).drew (heap_alloc_new w5 (.cells #[.int .i64 (-1001), .int .i64 (-1000), .int .i64 2000, .int .i64 2001] 3)) (by have := HD.out.lt; omega)).mono ?_); rintro e w6 ⟨⟨nv, rfl, -⟩, hd1, hr1⟩; (have hr1 := (Rolls.of_below (g := g) (below1 (w := w5) (.cells #[.int .i64 (-1001), .int .i64 (-1000), .int .i64 2000, .int .i64 2001] 3)).drew).trans hr1); (have G3 := hide (hr1.blk G3.out (by omega))); (have G4 := hide (hr1.blk G4.out (by omega))); (have HRB := hide (HRB.out.heap (hr1.block gg HRB.out.lt (by have := HG3.out; omega)))); (have HR := hide (HR.out.trans hr1)); (have HD := hide hd1); (obtain ⟨k0, k1, k2, -, -, -⟩ := tri_cells G3.out); (obtain ⟨vv2, x02, xf2⟩ := HRB.out.cell (j * 4) (by omega)); clear hd1 hr1)))
      all_goals
        go_wp2_with fail
        go_meet
        exact ⟨L.set j (L[j].upd 0 nv), .slice (some ⟨gg, 0, none⟩) L.length cg, di, ev, .inr ⟨rfl, by simp, hide (HRB.out.set j 0 nv hjL (by omega))⟩, hide ((Below.heap_setCell _ _ _ _ (show w.heap.size ≠ gg by have := HG3.out; omega)).trans G3.out), hide ((Below.heap_setCell _ _ _ _ (show w.heap.size + 1 ≠ gg by have := HG3.out; omega)).trans G4.out), hide (HD.out.keepB (Below.setCell (Below.refl w.heap.size w6) (p := ⟨gg, j * 4 + 0, none⟩) (by show w.heap.size ≤ gg; have := HG3.out; omega) _) (by omega) (by omega)), hide (HR.out.sets (k := gg) [.int .i64 nv] (j * 4 + 0) (by have := HG3.out; omega))⟩
    · have l0 := fun o => (tri_cells (pair_alloc G3.out o)).1
      go_upto_region 15 with fail
      obtain ⟨vv, x0, xf⟩ := HRB.out.cell (j * 4 + 1) (by omega)
      go_region_with ((first
        | (go_at_call 26; (with_reducible refine (keep_pick2 (fun _ => true) _ 4 rfl (by omega) rfl _ (HD.out.alloc (.cells #[.int .i64 0, .int .i64 1, .int .i64 64, .int .i64 65] 3)).drew (heap_alloc_new w5 (.cells #[.int .i64 0, .int .i64 1, .int .i64 64, .int .i64 65] 3)) (by have := HD.out.lt; omega)).mono ?_); rintro e w6 ⟨⟨nv, rfl, -⟩, hd1, hr1⟩; (have hr1 := (Rolls.of_below (g := g) (below1 (w := w5) (.cells #[.int .i64 0, .int .i64 1, .int .i64 64, .int .i64 65] 3)).drew).trans hr1); (have G3 := hide (hr1.blk G3.out (by omega))); (have G4 := hide (hr1.blk G4.out (by omega))); (have HRB := hide (HRB.out.heap (hr1.block gg HRB.out.lt (by have := HG3.out; omega)))); (have HR := hide (HR.out.trans hr1)); (have HD := hide hd1); (obtain ⟨k0, k1, k2, -, -, -⟩ := tri_cells G3.out); (obtain ⟨vv2, x02, xf2⟩ := HRB.out.cell (j * 4 + 1) (by omega)); clear hd1 hr1)))
      all_goals
        go_wp2_with fail
        go_meet
        exact ⟨L.set j (L[j].upd 1 nv), .slice (some ⟨gg, 0, none⟩) L.length cg, di, ev, .inr ⟨rfl, by simp, hide (HRB.out.set j 1 nv hjL (by omega))⟩, hide ((Below.heap_setCell _ _ _ _ (show w.heap.size ≠ gg by have := HG3.out; omega)).trans G3.out), hide ((Below.heap_setCell _ _ _ _ (show w.heap.size + 1 ≠ gg by have := HG3.out; omega)).trans G4.out), hide (HD.out.keepB (Below.setCell (Below.refl w.heap.size w6) (p := ⟨gg, j * 4 + 1, none⟩) (by show w.heap.size ≤ gg; have := HG3.out; omega) _) (by omega) (by omega)), hide (HR.out.sets (k := gg) [.int .i64 nv] (j * 4 + 1) (by have := HG3.out; omega))⟩
    · obtain ⟨vv, x0, xf⟩ := HRB.out.cell (j * 4 + 2) (by omega)
      go_wp2_with fail
      go_meet
      exact ⟨L.set j (L[j].upd 2 odd), .slice (some ⟨gg, 0, none⟩) L.length cg, di, ev, .inr ⟨rfl, by simp, hide (HRB.out.set j 2 odd hjL (by omega))⟩, hide ((Below.heap_setCell _ _ _ _ (show w.heap.size ≠ gg by have := HG3.out; omega)).trans G3.out), hide ((Below.heap_setCell _ _ _ _ (show w.heap.size + 1 ≠ gg by have := HG3.out; omega)).trans G4.out), hide (HD.out.keepB (Below.setCell (Below.refl w.heap.size w5) (p := ⟨gg, j * 4 + 2, none⟩) (by show w.heap.size ≤ gg; have := HG3.out; omega) _) (by omega) (by omega)), hide (HR.out.sets (k := gg) [.int .i64 odd] (j * 4 + 2) (by have := HG3.out; omega))⟩
    · obtain ⟨vv, x0, xf⟩ := HRB.out.cell (j * 4 + 3) (by omega)
      go_wp2_with fail
      go_meet
      exact ⟨L.set j (L[j].upd 3 odd), .slice (some ⟨gg, 0, none⟩) L.length cg, di, ev, .inr ⟨rfl, by simp, hide (HRB.out.set j 3 odd hjL (by omega))⟩, hide ((Below.heap_setCell _ _ _ _ (show w.heap.size ≠ gg by have := HG3.out; omega)).trans G3.out), hide ((Below.heap_setCell _ _ _ _ (show w.heap.size + 1 ≠ gg by have := HG3.out; omega)).trans G4.out), hide (HD.out.keepB (Below.setCell (Below.refl w.heap.size w5) (p := ⟨gg, j * 4 + 3, none⟩) (by show w.heap.size ≤ gg; have := HG3.out; omega) _) (by omega) (by omega)), hide (HR.out.sets (k := gg) [.int .i64 odd] (j * 4 + 3) (by have := HG3.out; omega))⟩
    · go_wp2_with fail
      go_meet
      exact ⟨[], .slice none 0 0, di, ev, .inl ⟨rfl, rfl⟩, hide ((setCell_row G3.out _ (i := 0)).trans rfl), hide ((Below.heap_setCell _ _ _ _ (show w.heap.size + 1 ≠ w.heap.size by omega)).trans G4.out), hide (HD.out.keepB (Below.setCell (Below.refl w.heap.size w5) (p := ⟨w.heap.size, 0, none⟩) (Nat.le_refl _) _) (by omega) (by omega)), hide (HR.out.sets (k := w.heap.size) [.slice none 0 0] 0 (by omega))⟩
  case rest =>
    obtain ⟨L', sl, di', ev', hsl, G3, G4, HD, HR⟩ := hcut
    obtain ⟨c0, c1, c2, -, -, -⟩ := tri_cells G3.out
    obtain ⟨b0, b1, b2, f0, f1, f2⟩ := tri_cells G4.out
    rcases hsl with ⟨rfl, rfl⟩ | ⟨rfl, hlen, HRB2⟩
    · go_wp2_with fail
      obtain ⟨y0', y1', y2', -, -, -⟩ := tri_cells (tri_set G4.out (.slice none 0 0) (.int .i64 di') (.int .i64 ev'))
      have HBLW := hide (below3 (w.heap.size + 1) wc (.slice none 0 0) (.int .i64 di') (.int .i64 ev'))
      (try simp only [Exit.inBlock, Exit.then])
      refine bodyPost_ret (v := .agg #[.slice none 0 0, .int .i64 di', .int .i64 ev']) (by simp [results, Try.results12, go_sem, y0', y1', y2']) rfl ⟨⟨_, di', ev', _, _, show Ending.returned (.agg #[.slice none ([] : List Rl).length 0, .int .i64 di', .int .i64 ev']) = _ from rfl, ⟨rfl, .inl rfl⟩, by refine ⟨by simp, fun b off h => by cases h⟩⟩, HD.out.keepB HBLW.out (by omega) (by omega), ⟨Nat.le_trans HR.out.size HBLW.out.size, fun k hk hg => (HBLW.out.block k (by omega)).trans (HR.out.block k hk hg)⟩⟩
    · go_wp2_with fail
      obtain ⟨y0', y1', y2', -, -, -⟩ := tri_cells (tri_set G4.out (.slice (some ⟨gg, 0, none⟩) L.length cg) (.int .i64 di') (.int .i64 ev'))
      have HBLW := hide (below3 (w.heap.size + 1) wc (.slice (some ⟨gg, 0, none⟩) L.length cg) (.int .i64 di') (.int .i64 ev'))
      (try simp only [Exit.inBlock, Exit.then])
      refine bodyPost_ret (v := .agg #[.slice (some ⟨gg, 0, none⟩) L.length cg, .int .i64 di', .int .i64 ev']) (by simp [results, Try.results12, go_sem, y0', y1', y2']) rfl ⟨⟨_, di', ev', _, _, by rw [hlen], (HRB2.out.heap (heap_set3 _ _ _ gg (by have := HG3.out; omega))).row, by refine ⟨by omega, fun b off h => by injection h with h; injection h with h1 h2; have := HG3.out; omega⟩⟩, HD.out.keepB HBLW.out (by omega) (by omega), ⟨Nat.le_trans HR.out.size HBLW.out.size, fun k hk hg => (HBLW.out.block k (by omega)).trans (HR.out.block k hk hg)⟩⟩

end Go.Proofs.Ytlhphhiodckaaaa
