/- The walk of the sender's reference: Push. (written by gen_sndpush.py) -/
import Derived.Test.YtpniokkllkjhhaaSndRef
import Derived.Laws.AppendOwnNone
import Derived.Deep.RegionHeld3
namespace Go.Proofs.Ytpniokkllkjhhaa
open Go.RowKit
set_option linter.unusedVariables false
set_option linter.unusedSimpArgs false
theorem heap_set3 {w : World} {k g : Nat} {o : Obj} (h : w.heap[k]? = some o) (hk : k ≠ g) (x y z : Value) : (((w.setCell ⟨g, 0, none⟩ x).setCell ⟨g, 1, none⟩ y).setCell ⟨g, 2, none⟩ z).heap[k]? = some o := by
  rw [heap_set hk, heap_set hk, heap_set hk]; exact h
theorem heap_drew {w : World} {k : Nat} {o : Obj} (h : w.heap[k]? = some o) : w.drew.heap[k]? = some o := h
theorem Own.strVals_cells {w : World} {B : Nat} {e : TypeId} {v : Value} {n : Nat} {E : List ByteArray} (h : Own w B e 1 v n (strVals E)) (hn : 0 < n) : ∃ g cap, v = .slice (some ⟨g, 0, none⟩) n cap ∧ B ≤ g ∧ g < w.heap.size ∧ n ≤ cap ∧ cap ≤ 9223372036854775807 ∧ n = E.length ∧ ∀ i (hi : i < E.length), w.cell? ⟨g, i, none⟩ = some (.string E[i]) := by
  have h1 := h
  obtain ⟨hl, h⟩ := h
  have hE : E.length = n := by simpa [strVals] using hl
  rcases h with ⟨rfl, h2⟩ | ⟨g, cap, cur, fr, rfl, k1, k2, k3, k4, k5, k6, k7⟩
  · omega
  · refine ⟨g, cap, rfl, k1, (Array.getElem?_eq_some_iff.1 k2).1, k4, by unfold maxLen at k5; omega, hE.symm, fun i hi => ?_⟩
    have := ((h1.cells rfl).2 _ rfl).2 i (.string E[i]) (by rw [strVals, List.getElem?_map, List.getElem?_eq_getElem hi]; rfl)
    have hadd : (⟨g, 0, none⟩ : Addr).add i = ⟨g, i, none⟩ := by
      unfold Addr.add; split
      · rename_i h; subst h; rfl
      · simp
    rw [hadd] at this
    exact this
set_option maxHeartbeats 8000000 in
set_option maxRecDepth 100000 in
theorem sref_push_some (s f : Nat) (D : List ByteArray) (x : ByteArray) (ad : Addr) (n c : Nat) (hok : SOk s f D) (hx : x.size ≤ 4064) (hf : f + D.length ≤ 1073741824) (hc : n ≤ c ∧ c ≤ 9223372036854775807) (w : World) (hr : StrRow w (some ad) n D) :
    Calls Try.prog 17 #[.agg #[.int .i64 s, .int .i64 f, .slice (some ad) n c], .string x] w fun e w' => (∃ b' o' n' c', e = .returned (.tuple #[.agg #[.int .i64 s, .int .i64 (pushF s f D : Nat), .slice (some ⟨b', o', none⟩) n' c'], .int .i64 ((f + D.length : Nat) : Int), .int .i64 0]) ∧ w.heap.size ≤ b' ∧ StrRow w' (some ⟨b', o', none⟩) n' (pushD s D x) ∧ n' ≤ c' ∧ c' ≤ 9223372036854775807) ∧ Below w.heap.size w w' := by
  have hnD := hr.1
  have HV := hide (fun (W : World) (hW : StrRow W (some ad) n D) => sref_valid s f D (some ad) n c hok W hW)
  have HNX : Hid (∀ W, Calls Try.prog 20 #[.agg #[.int .i64 s, .int .i64 f, .slice (some ad) n c]] W fun e w' => e = .returned (.int .i64 (f + D.length : Nat)) ∧ Below W.heap.size W w') := fun W => by
    have q := sref_next s f (some ad) n c (by have := hok.2.2.2.1; omega) (by have := hok.2.2.1; have := hok.2.1; omega) W
    rw [show ((f + D.length : Nat) : Int) = (f : Int) + ((n : Nat) : Int) by have := hnD; omega]
    exact q
  obtain ⟨h1, h2, h3, h4, h5⟩ := hok
  obtain ⟨i0, hi0, hz0, hz1, hz2⟩ := info_parts info_str
  have HR := hide hr
  have hsl : (strVals D).length = n * 1 := by rw [strVals, List.length_map]; omega
  have HSL := hide hsl
  have hv1 : ∀ u ∈ strVals D, u.oneCell' = true := fun u hu => by
    simp [strVals] at hu
    obtain ⟨y, -, rfl⟩ := hu
    rfl
  have HV1 := hide hv1
  have HHO := hide hr.holds
  obtain ⟨q, hq⟩ : ∃ q : Nat, f + D.length = q := ⟨_, rfl⟩
  rw [hq] at HNX hf ⊢
  have dx : decide ((4064 : Int) < (x.size : Int)) = false := by simp; omega
  have dx' : decide (4064 < x.size) = false := by simp; omega
  have df : decide ((q : Int) = 1073741825) = false := by simp; omega
  have df' : (((q : Int)) == 1073741825) = false := by simp; omega
  have df'' : decide (q = 1073741825) = false := by simp; omega
  have G0 := hide (pair_alloc (heap_alloc_new w (.cells #[.int .i64 s, .int .i64 f, .slice (some ad) n c] 30)) (.cells #[.int .i64 0, .int .i64 0, .slice none 0 0] 30))
  have G1 := hide (new_at (w := w.alloc (.cells #[.int .i64 s, .int .i64 f, .slice (some ad) n c] 30)) (.cells #[.int .i64 0, .int .i64 0, .slice none 0 0] 30) (g := w.heap.size + 1) (by simp))
  have HB := hide (below2 (w := w) (.cells #[.int .i64 s, .int .i64 f, .slice (some ad) n c] 30) (.cells #[.int .i64 0, .int .i64 0, .slice none 0 0] 30))
  have hns : (D.length = s ∧ decide ((s : Int) < (D.length : Int) + 1) = true ∧ decide (s < D.length + 1) = true) ∨ (D.length ≠ s ∧ decide ((s : Int) < (D.length : Int) + 1) = false ∧ decide (s < D.length + 1) = false) := by
    by_cases h : D.length = s
    · exact .inl ⟨h, by simp; omega, by simp; omega⟩
    · exact .inr ⟨h, by simp; omega, by simp; omega⟩
  have HN := hide hnD
  have HQ := hide hq
  have hnb : n ≤ 256 := by omega
  clear hr h5 hsl hnD hq hv1
  rcases hns with ⟨hns, y1, y2⟩ | ⟨hns, y1, y2⟩ <;> (have HNS := hide hns; clear hns)
  all_goals
    go_enter Try.func17, Try.ntmps17
    go_wp2_with (first
      | (go_at_call 19; (with_reducible refine (HV.out _ ?_).mono ?_); (focus exact HR.out.keep HB.out); rintro e w1 ⟨rfl, hb⟩; (have G0 := hide ((hb.block _ (Array.getElem?_eq_some_iff.1 G0.out).1).trans G0.out)); (have G1 := hide ((hb.block _ (Array.getElem?_eq_some_iff.1 G1.out).1).trans G1.out)); (have HB := hide (HB.out.trans (hb.mono HB.out.size))); (obtain ⟨c0, c1, c2, c3, c4, c5⟩ := tri_cells G0.out); clear hb)
      | (go_at_call 20; (with_reducible refine (HNX.out _).mono ?_); rintro e w2 ⟨rfl, hb⟩; (have G0 := hide ((hb.block _ (Array.getElem?_eq_some_iff.1 G0.out).1).trans G0.out)); (have G1 := hide ((hb.block _ (Array.getElem?_eq_some_iff.1 G1.out).1).trans G1.out)); (have HB := hide (HB.out.trans (hb.mono HB.out.size))); clear c0 c1 c2 c3 c4 c5; (obtain ⟨c0, c1, c2, c3, c4, c5⟩ := tri_cells G0.out); (have l0 := fun o => (tri_cells (pair_alloc G0.out o)).1); (have l1 := fun o => (tri_cells (pair_alloc G0.out o)).2.1); (have l2 := fun o => (tri_cells (pair_alloc G0.out o)).2.2.1); (have HW2 := hide (show w.heap.size + 1 < w2.heap.size from (Array.getElem?_eq_some_iff.1 G1.out).1)); clear hb)
      | (at_builtin
         refine wpList_append_Own (w2.alloc (.cells #[.int .i64 s, .int .i64 f, .slice (some ad) n c] 30)) rfl _ _ 28 rfl (w2.heap.size + 1) 9 i0 _ 1 16 Try.underlying28 hi0 hz0 hz1 hz2 rfl (by decide) (.slice none 0 0) 0 [] rfl (Own.nil _ _ _ _) ad n c (strVals D) rfl HSL.out ((HR.out.keep (HB.out.alloc HB.out.size _)).holds ad rfl) HV1.out (by unfold maxLen; omega) (by omega) (by simp) ?_
         intro v1 w3 hown hgr
         (have hb := (Below.refl (w2.heap.size + 1) (w2.alloc (.cells #[.int .i64 s, .int .i64 f, .slice (some ad) n c] 30))).grown hgr (by simp) (Own.nil w2 (w2.heap.size + 1) 9 1).block_ge)
         (have hgl := (Array.getElem?_eq_some_iff.1 G0.out).1)
         (have G0 := hide ((hb.block _ (by omega)).trans (pair_alloc G0.out _))); (have G1 := hide ((hb.block _ (by have := HW2.out; omega)).trans (pair_alloc G1.out _))); (have G7 := hide ((hb.block _ (by omega)).trans (heap_alloc_new w2 _)))
         (have HO := hide hown); (have HB := hide ((HB.out.alloc HB.out.size _).trans (hb.mono (by omega)))); (have HS3 := hide hb.size)
         clear c0 c1 c2 c3 c4 c5; (obtain ⟨c0, c1, c2, c3, c4, c5⟩ := tri_cells G0.out); clear hgr hown hb l0 l1 l2)
      | (at_builtin
         refine wpList_append_elem w3 rfl _ _ 28 rfl (w2.heap.size + 1) 9 i0 _ 1 16 Try.underlying28 hi0 hz0 hz1 hz2 rfl (by decide) _ _ _ [.string x] HO.out rfl rfl rfl rfl (by omega) (by omega) (by have := HS3.out; (try simp at this); omega) ?_
         intro v2 w4 hown hb hrest
         (have hgl := (Array.getElem?_eq_some_iff.1 G0.out).1)
         (have G0 := hide ((hb.block _ (by have := HW2.out; omega)).trans G0.out)); (have G1 := hide ((hb.block _ (by have := HW2.out; omega)).trans G1.out)); (have G7 := hide ((hb.block _ (by omega)).trans G7.out))
         (have HB := hide (HB.out.trans (hb.mono (by have := HW2.out; omega))))
         (have hown2 : Own w4 (w2.heap.size + 1) 9 1 v2 (D.length + 1) (strVals (D ++ [x])) := (by (have hh := HN.out; (try simp only [Nat.zero_add, List.nil_append] at hown); (try rw [hh] at hown); (have e : strVals (D ++ [x]) = strVals D ++ [.string x] := by simp [strVals]); rw [e]; exact hown)))
         (obtain ⟨g, cg, rfl, hg0, hgl2, hg1, hg2, hg3, hg4⟩ := Own.strVals_cells hown2 (by omega))
         (have hg1 : D.length + 1 ≤ cg := (by (have hgl3 := @List.length_append _ D [x]; have hgl4 : [x].length = 1 := rfl; omega))); (have HG4 := hide hg4)
         clear c0 c1 c2 c3 c4 c5; (obtain ⟨c0, c1, c2, c3, c4, c5⟩ := tri_cells G0.out); (obtain ⟨m0, m1, m2, m3, m4, m5⟩ := tri_cells G7.out); clear hown hown2 hb hrest hg3 hg4))
  · have hcg : 1 < cg := by have := HNS.out; omega
    go_region
    go_wp2_with fail
    generalize hW5 : ((w4.setCell ⟨w2.heap.size, 2, none⟩ (.slice (some ⟨g, 0, none⟩) (D.length + 1) cg)).setCell ⟨w2.heap.size, 2, none⟩ (.slice (some ⟨g, 1, none⟩) D.length (cg - 1))).setCell ⟨w2.heap.size, 1, none⟩ (.int .i64 ((f : Int) + 1)) = W5
    have K7 : Hid (W5.heap[w2.heap.size]? = some (.cells #[.int .i64 s, .int .i64 ((f : Int) + 1), .slice (some ⟨g, 1, none⟩) D.length (cg - 1)] 30 (0, 0))) := by rw [← hW5]; rw [setCell_row (setCell_row (setCell_row G7.out _) _) _]; rfl
    have hk9 : ∀ k, k ≠ w2.heap.size → W5.heap[k]? = w4.heap[k]? := fun k hk => by rw [← hW5]; (repeat rw [heap_set hk])
    have K0 := hide ((hk9 w.heap.size (by have := HW2.out; omega)).trans G0.out)
    have K1 := hide ((hk9 (w.heap.size + 1) (by have := HW2.out; omega)).trans G1.out)
    have KG := hide (hk9 g (by omega))
    have hz5 : W5.heap.size = w4.heap.size := by rw [← hW5]; simp [World.setCell]
    have HB5 : Hid (Below w.heap.size w W5) := by
      rw [← hW5]
      exact ((HB.out.setCell (by show _ ≤ w2.heap.size; have := HW2.out; omega) _).setCell (by show _ ≤ w2.heap.size; have := HW2.out; omega) _).setCell (by show _ ≤ w2.heap.size; have := HW2.out; omega) _
    have HZ5 := hide hz5
    clear hW5 hk9 hz5
    clear c0 c1 c2 c3 c4 c5 m0 m1 m2 m3 m4 m5
    have keepS : ∀ w' : World, w'.heap[w2.heap.size]? = some (.cells #[.int .i64 s, .int .i64 ((f : Int) + 1), .slice (some ⟨g, 1, none⟩) D.length (cg - 1)] 30 (0, 0)) → w'.heap[w.heap.size]? = some (.cells #[.int .i64 s, .int .i64 f, .slice (some ad) n c] 30 (0, 0)) → (w'.cell? ⟨w2.heap.size, 0, none⟩ = some (.int .i64 s) ∧ w'.cell? ⟨w2.heap.size, 1, none⟩ = some (.int .i64 ((f : Int) + 1)) ∧ w'.cell? ⟨w2.heap.size, 2, none⟩ = some (.slice (some ⟨g, 1, none⟩) D.length (cg - 1)) ∧ w'.cell? ⟨w.heap.size, 0, none⟩ = some (.int .i64 s) ∧ w'.cell? ⟨w.heap.size, 1, none⟩ = some (.int .i64 f) ∧ w'.cell? ⟨w.heap.size, 2, none⟩ = some (.slice (some ad) n c)) := fun w' h h' => by
      obtain ⟨x0, x1, x2, -, -, -⟩ := tri_cells h
      obtain ⟨x3, x4, x5, -, -, -⟩ := tri_cells h'
      exact ⟨x0, x1, x2, x3, x4, x5⟩
    have KS := hide keepS
    have hn71 : w2.heap.size ≠ w.heap.size + 1 := by have := HW2.out; omega
    have hn01 : w.heap.size ≠ w.heap.size + 1 := by omega
    have HN71 := hide hn71
    have HN01 := hide hn01
    clear keepS hn71 hn01
    go_region_held3 (fun w' => w'.cell? ⟨w2.heap.size, 0, none⟩ = some (.int .i64 s) ∧ w'.cell? ⟨w2.heap.size, 1, none⟩ = some (.int .i64 ((f : Int) + 1)) ∧ w'.cell? ⟨w2.heap.size, 2, none⟩ = some (.slice (some ⟨g, 1, none⟩) D.length (cg - 1)) ∧ w'.cell? ⟨w.heap.size, 0, none⟩ = some (.int .i64 s) ∧ w'.cell? ⟨w.heap.size, 1, none⟩ = some (.int .i64 f) ∧ w'.cell? ⟨w.heap.size, 2, none⟩ = some (.slice (some ad) n c))
      (first
        | (with_reducible exact KS.out _ (heap_drew K7.out) (heap_drew K0.out))
        | (with_reducible exact KS.out _ (heap_drew (heap_drew K7.out)) (heap_drew (heap_drew K0.out)))
        | (with_reducible exact KS.out _ hk7 hk0)
        | (with_reducible exact KS.out _ (heap_set3 hk7 HN71.out _ _ _) (heap_set3 hk0 HN01.out _ _ _))
        | (with_reducible exact KS.out _ (heap_drew (heap_set3 hk7 HN71.out _ _ _)) (heap_drew (heap_set3 hk0 HN01.out _ _ _))))
      ((first
        | (go_at_call 20; (with_reducible refine (HNX.out _).mono ?_); rintro e w6 ⟨rfl, hb⟩; (have hk7 := (hb.block _ (Array.getElem?_eq_some_iff.1 K7.out).1).trans K7.out); (have hk0 := (hb.block _ (Array.getElem?_eq_some_iff.1 K0.out).1).trans K0.out); (have hk1 := (hb.block _ (Array.getElem?_eq_some_iff.1 K1.out).1).trans K1.out); (have hkg := (hb.block g (by have := HZ5.out; show g < W5.heap.size; omega)).trans KG.out); (have HB6 := hide (HB5.out.drew.drew.trans (hb.mono HB5.out.size))); (obtain ⟨m0, m1, m2, m3, m4, m5⟩ := tri_cells hk1))))
    rename_i hSS
    have hfin := hide hk1
    have HKG := hide hkg
    obtain ⟨z0, z1, z2⟩ := tri_set_cells hk1 (.int .i64 s) (.int .i64 ((f : Int) + 1)) (.slice (some ⟨g, 1, none⟩) D.length (cg - 1))
    clear hSS hk7 hk0 hkg
    go_wp2
    (try simp only [Exit.inBlock, Exit.then])
    have hpf : pushF s f D = f + 1 := if_pos HNS.out
    have hpd : pushD s D x = (D ++ [x]).drop 1 := if_pos HNS.out
    refine bodyPost_ret (v := .tuple #[.agg #[.int .i64 s, .int .i64 ((f : Int) + 1), .slice (some ⟨g, 1, none⟩) D.length (cg - 1)], .int .i64 (q : Nat), .int .i64 0]) (by simp [results, Try.results17, go_sem, z0, z1, z2]) rfl ⟨⟨g, 1, D.length, cg - 1, by first | (rw [hpf]; done) | (rw [hpf]; rfl), by have := HW2.out; omega, ?_, by omega, by omega⟩, ?_⟩
    · rw [hpd]
      refine strRow_of (w := w4) (by simp) (fun i hi => ?_) ?_
      · have := HG4.out (1 + i) (by rw [List.length_drop] at hi; omega)
        rw [this, List.getElem_drop]
      · show (World.setCell _ _ _).heap[g]? = _
        rw [heap_set (by have := HW2.out; omega), heap_set (by have := HW2.out; omega), heap_set (by have := HW2.out; omega)]
        exact HKG.out
    · exact ((HB6.out.setCell (by simp) _).setCell (by simp) _).setCell (by simp) _
  · skip
    generalize hW5 : w4.setCell ⟨w2.heap.size, 2, none⟩ (.slice (some ⟨g, 0, none⟩) (D.length + 1) cg) = W5
    have K7 : Hid (W5.heap[w2.heap.size]? = some (.cells #[.int .i64 s, .int .i64 ((f : Int)), .slice (some ⟨g, 0, none⟩) (D.length + 1) cg] 30 (0, 0))) := by rw [← hW5]; rw [setCell_row G7.out _]; rfl
    have hk9 : ∀ k, k ≠ w2.heap.size → W5.heap[k]? = w4.heap[k]? := fun k hk => by rw [← hW5]; (repeat rw [heap_set hk])
    have K0 := hide ((hk9 w.heap.size (by have := HW2.out; omega)).trans G0.out)
    have K1 := hide ((hk9 (w.heap.size + 1) (by have := HW2.out; omega)).trans G1.out)
    have KG := hide (hk9 g (by omega))
    have hz5 : W5.heap.size = w4.heap.size := by rw [← hW5]; simp [World.setCell]
    have HB5 : Hid (Below w.heap.size w W5) := by
      rw [← hW5]
      exact HB.out.setCell (by show _ ≤ w2.heap.size; have := HW2.out; omega) _
    have HZ5 := hide hz5
    clear hW5 hk9 hz5
    clear c0 c1 c2 c3 c4 c5 m0 m1 m2 m3 m4 m5
    have keepS : ∀ w' : World, w'.heap[w2.heap.size]? = some (.cells #[.int .i64 s, .int .i64 ((f : Int)), .slice (some ⟨g, 0, none⟩) (D.length + 1) cg] 30 (0, 0)) → w'.heap[w.heap.size]? = some (.cells #[.int .i64 s, .int .i64 f, .slice (some ad) n c] 30 (0, 0)) → (w'.cell? ⟨w2.heap.size, 0, none⟩ = some (.int .i64 s) ∧ w'.cell? ⟨w2.heap.size, 1, none⟩ = some (.int .i64 ((f : Int))) ∧ w'.cell? ⟨w2.heap.size, 2, none⟩ = some (.slice (some ⟨g, 0, none⟩) (D.length + 1) cg) ∧ w'.cell? ⟨w.heap.size, 0, none⟩ = some (.int .i64 s) ∧ w'.cell? ⟨w.heap.size, 1, none⟩ = some (.int .i64 f) ∧ w'.cell? ⟨w.heap.size, 2, none⟩ = some (.slice (some ad) n c)) := fun w' h h' => by
      obtain ⟨x0, x1, x2, -, -, -⟩ := tri_cells h
      obtain ⟨x3, x4, x5, -, -, -⟩ := tri_cells h'
      exact ⟨x0, x1, x2, x3, x4, x5⟩
    have KS := hide keepS
    have hn71 : w2.heap.size ≠ w.heap.size + 1 := by have := HW2.out; omega
    have hn01 : w.heap.size ≠ w.heap.size + 1 := by omega
    have HN71 := hide hn71
    have HN01 := hide hn01
    clear keepS hn71 hn01
    go_region_held3 (fun w' => w'.cell? ⟨w2.heap.size, 0, none⟩ = some (.int .i64 s) ∧ w'.cell? ⟨w2.heap.size, 1, none⟩ = some (.int .i64 ((f : Int))) ∧ w'.cell? ⟨w2.heap.size, 2, none⟩ = some (.slice (some ⟨g, 0, none⟩) (D.length + 1) cg) ∧ w'.cell? ⟨w.heap.size, 0, none⟩ = some (.int .i64 s) ∧ w'.cell? ⟨w.heap.size, 1, none⟩ = some (.int .i64 f) ∧ w'.cell? ⟨w.heap.size, 2, none⟩ = some (.slice (some ad) n c))
      (first
        | (with_reducible exact KS.out _ (heap_drew K7.out) (heap_drew K0.out))
        | (with_reducible exact KS.out _ (heap_drew (heap_drew K7.out)) (heap_drew (heap_drew K0.out)))
        | (with_reducible exact KS.out _ hk7 hk0)
        | (with_reducible exact KS.out _ (heap_set3 hk7 HN71.out _ _ _) (heap_set3 hk0 HN01.out _ _ _))
        | (with_reducible exact KS.out _ (heap_drew (heap_set3 hk7 HN71.out _ _ _)) (heap_drew (heap_set3 hk0 HN01.out _ _ _))))
      ((first
        | (go_at_call 20; (with_reducible refine (HNX.out _).mono ?_); rintro e w6 ⟨rfl, hb⟩; (have hk7 := (hb.block _ (Array.getElem?_eq_some_iff.1 K7.out).1).trans K7.out); (have hk0 := (hb.block _ (Array.getElem?_eq_some_iff.1 K0.out).1).trans K0.out); (have hk1 := (hb.block _ (Array.getElem?_eq_some_iff.1 K1.out).1).trans K1.out); (have hkg := (hb.block g (by have := HZ5.out; show g < W5.heap.size; omega)).trans KG.out); (have HB6 := hide (HB5.out.drew.trans (hb.mono HB5.out.size))); (obtain ⟨m0, m1, m2, m3, m4, m5⟩ := tri_cells hk1))))
    rename_i hSS
    have hfin := hide hk1
    have HKG := hide hkg
    obtain ⟨z0, z1, z2⟩ := tri_set_cells hk1 (.int .i64 s) (.int .i64 ((f : Int))) (.slice (some ⟨g, 0, none⟩) (D.length + 1) cg)
    clear hSS hk7 hk0 hkg
    go_wp2
    (try simp only [Exit.inBlock, Exit.then])
    have hpf : pushF s f D = f := if_neg HNS.out
    have hpd : pushD s D x = D ++ [x] := if_neg HNS.out
    refine bodyPost_ret (v := .tuple #[.agg #[.int .i64 s, .int .i64 ((f : Int)), .slice (some ⟨g, 0, none⟩) (D.length + 1) cg], .int .i64 (q : Nat), .int .i64 0]) (by simp [results, Try.results17, go_sem, z0, z1, z2]) rfl ⟨⟨g, 0, D.length + 1, cg, by first | (rw [hpf]; done) | (rw [hpf]; rfl), by have := HW2.out; omega, ?_, by omega, by omega⟩, ?_⟩
    · rw [hpd]
      refine strRow_of (w := w4) (by simp) (fun i hi => ?_) ?_
      · rw [Nat.zero_add]; exact HG4.out i hi
      · show (World.setCell _ _ _).heap[g]? = _
        rw [heap_set (by have := HW2.out; omega), heap_set (by have := HW2.out; omega), heap_set (by have := HW2.out; omega)]
        exact HKG.out
    · exact ((HB6.out.setCell (by simp) _).setCell (by simp) _).setCell (by simp) _
end Go.Proofs.Ytpniokkllkjhhaa
