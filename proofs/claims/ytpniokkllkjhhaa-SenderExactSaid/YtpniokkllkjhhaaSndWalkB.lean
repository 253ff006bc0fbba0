/- The walks of the sender: New, Push. -/
import Derived.Test.YtpniokkllkjhhaaSndWalk
import Derived.Test.YtpniokkllkjhhaaOwnB
import Derived.ArgAppend
namespace Go.Proofs.Ytpniokkllkjhhaa
open Go.RowKit
set_option linter.unusedVariables false
set_option linter.unusedSimpArgs false
def strVals (D : List ByteArray) : List Value := D.map fun x => Value.string x
theorem StrRow.holds {w : World} {p : Option Addr} {n : Nat} {D : List ByteArray} (h : StrRow w p n D) : ∀ b, p = some b → ∀ j u, (strVals D)[j]? = some u → w.cell? (b.add j) = some u := by
  intro b hb j u hj
  obtain ⟨rfl, h | ⟨b', off, rfl, h⟩⟩ := h
  · have : D = [] := List.eq_nil_of_length_eq_zero h
    subst this
    simp [strVals] at hj
  · injection hb with hb
    subst hb
    have hlt : j < D.length := by
      have := (List.getElem?_eq_some_iff.1 hj).1
      simpa [strVals] using this
    have hadd : (⟨b', off, none⟩ : Addr).add j = ⟨b', off + j, none⟩ := by
      unfold Addr.add; split
      · rename_i h; subst h; rfl
      · rfl
    rw [hadd, h j hlt]
    simp [strVals, hlt] at hj
    rw [hj]
theorem own_str {w : World} {B : Nat} {e : TypeId} {v : Value} {n : Nat} {D : List ByteArray} {x : ByteArray} (h : w.ownsRow B e 1 v (n + 1) (strVals D ++ [.string x])) (hn : n = D.length) :
    ∃ g cap, v = .slice (some ⟨g, 0, none⟩) (n + 1) cap ∧ B ≤ g ∧ n + 1 ≤ cap ∧ cap ≤ 9223372036854775807 ∧ ∀ i (hi : i < (D ++ [x]).length), w.cell? ⟨g, i, none⟩ = some (.string (D ++ [x])[i]) := by
  have h0 := Own.of_ownsRow h
  have h1 := h0
  obtain ⟨hl, h⟩ := h0
  rcases h with ⟨rfl, h2⟩ | ⟨g, cap, cur, fr, rfl, k1, k2, k3, k4, k5, k6, k7⟩
  · omega
  · refine ⟨g, cap, rfl, k1, k4, by unfold maxLen at k5; omega, fun i hi => ?_⟩
    have := ((h1.cells rfl).2 _ rfl).2 i (.string (D ++ [x])[i]) (by
      have e : strVals D ++ [.string x] = strVals (D ++ [x]) := by simp [strVals]
      rw [e, strVals, List.getElem?_map, List.getElem?_eq_getElem hi]; rfl)
    have hadd : (⟨g, 0, none⟩ : Addr).add i = ⟨g, i, none⟩ := by
      unfold Addr.add; split
      · rename_i h; subst h; rfl
      · simp
    rw [hadd] at this
    exact this
theorem new_one (w : World) (v : Value) (t : TypeId) : ∀ j u, [v][j]? = some u → (w.alloc (.cells #[v] t)).cell? ((⟨w.heap.size, 0, none⟩ : Addr).add j) = some u := by
  intro j u hj
  have h0 : j = 0 := by
    have := (List.getElem?_eq_some_iff.1 hj).1
    simpa using this
  subst h0
  simp at hj
  subst hj
  have hadd : (⟨w.heap.size, 0, none⟩ : Addr).add 0 = ⟨w.heap.size, 0, none⟩ := rfl
  rw [hadd, cell_of_row _ _ _ _ _ _ (heap_alloc_new w _)]
  rfl
theorem tri_set {w : World} {g : Nat} {x y z : Value} {t : TypeId} (h : w.heap[g]? = some (.cells #[x, y, z] t (0, 0))) (x' y' z' : Value) :
    (((w.setCell ⟨g, 0, none⟩ x').setCell ⟨g, 1, none⟩ y').setCell ⟨g, 2, none⟩ z').heap[g]? = some (.cells #[x', y', z'] t (0, 0)) := by
  rw [setCell_row (setCell_row (setCell_row h _) _) _]; rfl
theorem tri_set_cells {w : World} {g : Nat} {x y z : Value} {t : TypeId} (h : w.heap[g]? = some (.cells #[x, y, z] t (0, 0))) (x' y' z' : Value) :
    (w.setCell ⟨g, 0, none⟩ x').cell? ⟨g, 0, none⟩ = some x' ∧ ((w.setCell ⟨g, 0, none⟩ x').setCell ⟨g, 1, none⟩ y').cell? ⟨g, 1, none⟩ = some y' ∧ (((w.setCell ⟨g, 0, none⟩ x').setCell ⟨g, 1, none⟩ y').setCell ⟨g, 2, none⟩ z').cell? ⟨g, 2, none⟩ = some z' := by
  refine ⟨?_, ?_, ?_⟩
  · rw [cell_of_row _ _ _ _ _ _ (setCell_row h _)]; rfl
  · rw [cell_of_row _ _ _ _ _ _ (setCell_row (setCell_row h _) _)]; rfl
  · rw [cell_of_row _ _ _ _ _ _ (setCell_row (setCell_row (setCell_row h _) _) _)]; rfl
theorem strRow_of {w w' : World} {g off n : Nat} {E : List ByteArray} (hn : n = E.length) (h : ∀ i (hi : i < E.length), w.cell? ⟨g, off + i, none⟩ = some (.string E[i])) (hh : w'.heap[g]? = w.heap[g]?) : StrRow w' (some ⟨g, off, none⟩) n E :=
  ⟨hn, .inr ⟨g, off, rfl, fun i hi => by
    have e : w'.cell? ⟨g, off + i, none⟩ = w.cell? ⟨g, off + i, none⟩ := by simp [World.cell?, hh]
    rw [e]; exact h i hi⟩⟩
theorem heap_set {w : World} {k g i : Nat} (h : k ≠ g) (v : Value) : (w.setCell ⟨g, i, none⟩ v).heap[k]? = w.heap[k]? := Below.heap_setCell _ _ _ _ h
theorem pair_alloc {w : World} {g : Nat} {c : Obj} (h : w.heap[g]? = some c) (o : Obj) : (w.alloc o).heap[g]? = some c := by
  rw [Below.heap_alloc _ _ _ (Array.getElem?_eq_some_iff.1 h).1]; exact h
theorem new_at {w : World} {g : Nat} (o : Obj) (hg : w.heap.size = g) : (w.alloc o).heap[g]? = some o := by subst hg; exact heap_alloc_new w o
theorem info_str : (Try.prog.info? 9).map (fun i => (i.zero, i.size, i.bytes)) = some (some (.string ByteArray.empty), 1, 16) := by kernel_rfl
def pushD (s : Nat) (D : List ByteArray) (x : ByteArray) : List ByteArray := if D.length = s then (D ++ [x]).drop 1 else D ++ [x]
def pushF (s f : Nat) (D : List ByteArray) : Nat := if D.length = s then f + 1 else f
theorem snd_new (s : Nat) (h : 1 ≤ s ∧ s ≤ 256) (w : World) :
    Calls Try.prog 10 #[.int .i64 s] w fun e w' => e = .returned (.tuple #[.agg #[.int .i64 s, .int .i64 0, .slice none 0 0], .int .i64 0]) ∧ Below w.heap.size w w' := by
  go_enter Try.func10, Try.ntmps10
  go_wp2_with (first
    | (go_at_call 27; (with_reducible refine (snd_in_yes _ _ _ ?_ _).mono ?_); (focus omega); rintro e w1 ⟨rfl, rfl⟩))
  (try simp only [Exit.inBlock, Exit.then])
  refine bodyPost_ret (v := .tuple #[.agg #[.int .i64 s, .int .i64 0, .slice none 0 0], .int .i64 0]) (by simp [results, Try.results10, go_sem]) rfl ⟨rfl, ?_⟩
  exact below1 _
set_option maxHeartbeats 4000000 in
set_option maxRecDepth 100000 in
theorem snd_push (s f : Nat) (D : List ByteArray) (x : ByteArray) (p : Option Addr) (n c : Nat) (hok : SOk s f D) (hx : x.size ≤ 4064) (hf : f + D.length ≤ 1073741824) (hc : n ≤ c ∧ c ≤ 9223372036854775807) (w : World) (hr : StrRow w p n D) :
    Calls Try.prog 12 #[.agg #[.int .i64 s, .int .i64 f, .slice p n c], .string x] w fun e w' => (∃ b' o' n' c', e = .returned (.tuple #[.agg #[.int .i64 s, .int .i64 (pushF s f D : Nat), .slice (some ⟨b', o', none⟩) n' c'], .int .i64 ((f + D.length : Nat) : Int), .int .i64 0]) ∧ w.heap.size ≤ b' ∧ StrRow w' (some ⟨b', o', none⟩) n' (pushD s D x) ∧ n' ≤ c' ∧ c' ≤ 9223372036854775807) ∧ Below w.heap.size w w' := by
  have hnD := hr.1
  subst hnD
  obtain ⟨hc1, hc2⟩ := hc
  have HV := hide (fun (W : World) (hW : StrRow W p D.length D) => snd_valid s f D p D.length c hok W hW)
  have HNX := hide (snd_next s f p D.length c (by omega) (by have := hok.2.2.1; have := hok.2.1; omega))
  obtain ⟨h1, h2, h3, h4, h5⟩ := hok
  obtain ⟨i0, hi0, hz0, hz1, hz2⟩ := info_parts info_str
  have hnone : p = none → D.length = 0 ∧ D.length = 0 := fun hp => by
    obtain ⟨-, h | ⟨b, off, hb, -⟩⟩ := hr
    · exact ⟨h, h⟩
    · rw [hp] at hb; cases hb
  have HR := hide hr
  have HNONE := hide hnone
  have hsl : (strVals D).length = D.length * 1 := by simp [strVals]
  have HSL := hide hsl
  have dx : decide ((4064 : Int) < (x.size : Int)) = false := by simp; omega
  have dx' : decide (4064 < x.size) = false := by simp; omega
  have df : decide ((f : Int) + (D.length : Int) = 1073741825) = false := by simp; omega
  have df' : (((f : Int) + (D.length : Int)) == 1073741825) = false := by simp; omega
  have G0 := hide (pair_alloc (heap_alloc_new w (.cells #[.int .i64 s, .int .i64 f, .slice p D.length c] 30)) (.cells #[.int .i64 0, .int .i64 0, .slice none 0 0] 30))
  have G1 := hide (new_at (w := w.alloc (.cells #[.int .i64 s, .int .i64 f, .slice p D.length c] 30)) (.cells #[.int .i64 0, .int .i64 0, .slice none 0 0] 30) (g := w.heap.size + 1) (by simp))
  have HB := hide (below2 (w := w) (.cells #[.int .i64 s, .int .i64 f, .slice p D.length c] 30) (.cells #[.int .i64 0, .int .i64 0, .slice none 0 0] 30))
  clear hr h5 hnone hsl
  generalize hn : D.length = n at *
  have HN := hide hn
  clear hn
  have hns : (n = s ∧ ((n : Int) == (s : Int)) = true ∧ decide (n = s) = true) ∨ (n ≠ s ∧ ((n : Int) == (s : Int)) = false ∧ decide (n = s) = false) := by
    by_cases h : n = s
    · exact .inl ⟨h, by simp; omega, by simp; omega⟩
    · exact .inr ⟨h, by simp; omega, by simp; omega⟩
  have hg1z : w.heap.size < w.heap.size + 1 := by omega
  rcases hns with ⟨hns, y1, y2⟩ | ⟨hns, y1, y2⟩ <;> (try (have hn1 : 1 ≤ n := by omega)) <;> (have HNS := hide hns; clear hns)
  all_goals
    go_enter Try.func12, Try.ntmps12
    go_wp2_with (first
      | (go_at_call 13; (with_reducible refine (HV.out _ ?_).mono ?_); (focus exact HR.out.keep HB.out); rintro e w1 ⟨rfl, hb⟩; (have G0 := hide ((hb.block _ (Array.getElem?_eq_some_iff.1 G0.out).1).trans G0.out)); (have G1 := hide ((hb.block _ (Array.getElem?_eq_some_iff.1 G1.out).1).trans G1.out)); (have HB := hide (HB.out.trans (hb.mono HB.out.size))); (obtain ⟨c0, c1, c2, f0, f1, f2⟩ := tri_cells G0.out); clear hb)
      | (go_at_call 14; (with_reducible refine (HNX.out _).mono ?_); rintro e w2 ⟨rfl, hb⟩; (have G0 := hide ((hb.block _ (Array.getElem?_eq_some_iff.1 G0.out).1).trans G0.out)); (have G1 := hide ((hb.block _ (Array.getElem?_eq_some_iff.1 G1.out).1).trans G1.out)); (have HB := hide (HB.out.trans (hb.mono HB.out.size))); clear c0 c1 c2 f0 f1 f2; (obtain ⟨c0, c1, c2, f0, f1, f2⟩ := tri_cells G0.out); clear hb)
      | (at_builtin
         refine wpList_append_grows _ rfl _ _ 28 rfl 9 i0 _ 1 16 Try.underlying28 hi0 hz0 hz1 hz2 rfl (by decide) p n n (strVals D) rfl HNONE.out HSL.out ((HR.out.keep (HB.out.alloc HB.out.size _)).holds) ⟨w2.heap.size, 0, none⟩ 1 1 [.string x] rfl rfl (new_one w2 (.string x) 9) (by simp [Value.oneCell']) (by omega) (by unfold maxLen; omega) (by omega) ?_
         intro v' w3 hown hgr
         (have hb := (Below.refl (w2.alloc (.cells #[.string x] 9)).heap.size _).grown hgr (Nat.le_refl _) (fun k h => by cases h))
         (have HG1N := hide (Array.getElem?_eq_some_iff.1 G1.out).1)
         (have G0 := hide ((hb.block _ (Array.getElem?_eq_some_iff.1 (pair_alloc G0.out _)).1).trans (pair_alloc G0.out _)))
         (have G1 := hide ((hb.block _ (Array.getElem?_eq_some_iff.1 (pair_alloc G1.out _)).1).trans (pair_alloc G1.out _)))
         (have HBN := hide HB.out.size)
         (have HB := hide ((HB.out.alloc HB.out.size _).trans (hb.mono (by have := HBN.out; simp; omega))))
         (obtain ⟨g, cg, rfl, hg0, hg1, hg2, hg3⟩ := own_str hown HN.out.symm)
         (have HG3 := hide hg3)
         clear c0 c1 c2 f0 f1 f2
         (obtain ⟨c0, c1, c2, f0, f1, f2⟩ := tri_cells G0.out); (obtain ⟨e0, e1, e2, k0, k1, k2⟩ := tri_cells G1.out); (try (have hcg : 1 < cg := (by omega))); (try (have hcg2 : (cg = 1) = False := (by (simp; omega)))); (have hgw : w.heap.size + 1 < g := (by have := HG1N.out; simp at hg0; omega)); clear hb hown hgr hg3))
  · go_region
    go_wp2
    (try simp only [Exit.inBlock, Exit.then])
    have hz : (((w3.setCell ⟨w.heap.size, 2, none⟩ (.slice (some ⟨g, 0, none⟩) (n + 1) cg)).setCell ⟨w.heap.size, 2, none⟩ (.slice (some ⟨g, 1, none⟩) n (cg - 1))).setCell ⟨w.heap.size, 1, none⟩ (.int .i64 ((f : Int) + 1))).heap[w.heap.size + 1]? = some (.cells #[.int .i64 0, .int .i64 0, .slice none 0 0] 30 (0, 0)) := by
      rw [heap_set (by omega), heap_set (by omega), heap_set (by omega)]; exact G1.out
    obtain ⟨z0, z1, z2⟩ := tri_set_cells hz (.int .i64 s) (.int .i64 ((f : Int) + 1)) (.slice (some ⟨g, 1, none⟩) n (cg - 1))
    have hpf : pushF s f D = f + 1 := if_pos (by rw [HN.out]; exact HNS.out)
    have hpd : pushD s D x = (D ++ [x]).drop 1 := if_pos (by rw [HN.out]; exact HNS.out)
    refine bodyPost_ret (v := .tuple #[.agg #[.int .i64 s, .int .i64 ((f : Int) + 1), .slice (some ⟨g, 1, none⟩) n (cg - 1)], .int .i64 ((f : Int) + (n : Int)), .int .i64 0]) (by simp [results, Try.results12, go_sem, z0, z1, z2]) rfl ⟨⟨g, 1, n, cg - 1, by rw [hpf]; rfl, by omega, ?_, by omega, by omega⟩, ?_⟩
    · rw [hpd]
      refine strRow_of (w := w3) (by rw [List.length_drop, List.length_append, HN.out]; simp) (fun i hi => ?_) ?_
      · have := HG3.out (1 + i) (by rw [List.length_drop] at hi; omega)
        rw [this, List.getElem_drop]
      · show (World.setCell _ _ _).heap[g]? = _
        rw [heap_set (by omega), heap_set (by omega), heap_set (by omega), heap_set (by omega), heap_set (by omega), heap_set (by omega)]
    · exact ((((((HB.out.setCell (Nat.le_refl _) _).setCell (Nat.le_refl _) _).setCell (Nat.le_refl _) _).setCell (by simp) _).setCell (by simp) _).setCell (by simp) _).drew
  · (try simp only [Exit.inBlock, Exit.then])
    have hz : (w3.setCell ⟨w.heap.size, 2, none⟩ (.slice (some ⟨g, 0, none⟩) (n + 1) cg)).heap[w.heap.size + 1]? = some (.cells #[.int .i64 0, .int .i64 0, .slice none 0 0] 30 (0, 0)) := by
      rw [heap_set (by omega)]; exact G1.out
    obtain ⟨z0, z1, z2⟩ := tri_set_cells hz (.int .i64 s) (.int .i64 (f : Int)) (.slice (some ⟨g, 0, none⟩) (n + 1) cg)
    have hpf : pushF s f D = f := if_neg (by rw [HN.out]; exact HNS.out)
    have hpd : pushD s D x = D ++ [x] := if_neg (by rw [HN.out]; exact HNS.out)
    refine bodyPost_ret (v := .tuple #[.agg #[.int .i64 s, .int .i64 (f : Int), .slice (some ⟨g, 0, none⟩) (n + 1) cg], .int .i64 ((f : Int) + (n : Int)), .int .i64 0]) (by simp [results, Try.results12, go_sem, z0, z1, z2]) rfl ⟨⟨g, 0, n + 1, cg, by rw [hpf]; rfl, by omega, ?_, by omega, by omega⟩, ?_⟩
    · rw [hpd]
      refine strRow_of (w := w3) (by rw [List.length_append, HN.out]; simp) (fun i hi => ?_) ?_
      · rw [Nat.zero_add]; exact HG3.out i hi
      · show (World.setCell _ _ _).heap[g]? = _
        rw [heap_set (by omega), heap_set (by omega), heap_set (by omega), heap_set (by omega)]
    · exact (((HB.out.setCell (Nat.le_refl _) _).setCell (by simp) _).setCell (by simp) _).setCell (by simp) _
end Go.Proofs.Ytpniokkllkjhhaa
