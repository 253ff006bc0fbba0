/- The walk of the statement SenderKeeps. -/
import Derived.Test.YtpniokkllkjhhaaSndSane
import Derived.Test.YtpniokkllkjhhaaDiceB
import Derived.Deep.AppendLies
namespace Go.Proofs.Ytpniokkllkjhhaa
open Go.RowKit
set_option linter.unusedVariables false
set_option linter.unusedSimpArgs false
/-- A short string. -/
def isStr : Value → Bool
  | .string x => decide (x.size ≤ 4064)
  | _ => false
theorem isStr_get {cs : Array Value} (h : cs.toList.all isStr = true) {i : Nat} (hi : i < cs.size) : ∃ x : ByteArray, cs[i]? = some (.string x) ∧ x.size ≤ 4064 := by
  have hv : isStr cs[i] = true := (List.all_eq_true.1 h) _ (by simp)
  rw [Array.getElem?_eq_getElem hi]
  generalize cs[i] = v at hv
  match v, hv with
  | .string x, h => exact ⟨x, rfl, of_decide_eq_true h⟩
theorem StrRow.rolls {w w' : World} {p : Option Addr} {n gd : Nat} {D : List ByteArray} (h : StrRow w p n D) (hr : Rolls gd w w') (hg : ∀ b off, p = some ⟨b, off, none⟩ → b ≠ gd) : StrRow w' p n D := by
  obtain ⟨rfl, h | ⟨b, off, rfl, h⟩⟩ := h
  · exact ⟨rfl, .inl h⟩
  · refine ⟨rfl, .inr ⟨b, off, rfl, fun i hi => ?_⟩⟩
    have e : w'.cell? ⟨b, off + i, none⟩ = w.cell? ⟨b, off + i, none⟩ := by
      have := hr.block b (block_lt_of_cell (h i hi)) (hg b off rfl)
      simp [World.cell?, this]
    rw [e]; exact h i hi
theorem owns_heap {w w' : World} {B : Nat} {e : TypeId} {size : Nat} {v : Value} {n : Nat} {xs : List Value} (h : w.ownsRow B e size v n xs) (hk : ∀ k, B ≤ k → k < w.heap.size → w'.heap[k]? = w.heap[k]?) : w'.ownsRow B e size v n xs := by
  obtain ⟨hl, h⟩ := h
  rcases h with h | ⟨g, cap, cur, h1, h2, h3, h4⟩
  · exact ⟨hl, .inl h⟩
  · exact ⟨hl, .inr ⟨g, cap, cur, h1, h2, (hk g h2 (Array.getElem?_eq_some_iff.1 h3).1).trans h3, h4⟩⟩
theorem heap_set3 {w : World} {k g : Nat} {o : Obj} (h : w.heap[k]? = some o) (hk : k ≠ g) (x y z : Value) : (((w.setCell ⟨g, 0, none⟩ x).setCell ⟨g, 1, none⟩ y).setCell ⟨g, 2, none⟩ z).heap[k]? = some o := by
  rw [heap_set hk, heap_set hk, heap_set hk]; exact h
theorem own_lt {w : World} {B : Nat} {e : TypeId} {size : Nat} {v : Value} {n : Nat} {xs : List Value} (h : w.ownsRow B e size v n xs) : ∀ k, v.ownBlock = some k → B ≤ k ∧ k < w.heap.size := by
  obtain ⟨hl, h⟩ := h
  intro k hk
  rcases h with ⟨rfl, h2⟩ | ⟨g, cap, cur, rfl, h2, h3, h4⟩
  · cases hk
  · simp [Value.ownBlock] at hk
    subst hk
    exact ⟨h2, (Array.getElem?_eq_some_iff.1 h3).1⟩
theorem StrRow.lt {w : World} {b o n : Nat} {D : List ByteArray} (h : StrRow w (some ⟨b, o, none⟩) n D) (hn : 0 < n) : b < w.heap.size := by
  obtain ⟨h1, h2 | ⟨b', off, hp, hc⟩⟩ := h
  · omega
  · injection hp with hp
    injection hp with hp1 hp2
    subst hp1
    exact block_lt_of_cell (hc 0 (by omega))
theorem Die.keepB {W : World} {a : Option Addr} {len cap g B : Nat} {w w' : World} (h : Die W a len cap g w) (hb : Below B w w') (hg : g < B) (hB : W.heap.size ≤ B) : Die W a len cap g w' := by
  obtain ⟨i, h1, h2⟩ := h.spot
  exact ⟨h.row, h.big, h.low.trans (hb.mono hB), i, h1, (hb.block g hg).trans h2⟩
theorem heap_drew {w : World} {k : Nat} {o : Obj} (h : w.heap[k]? = some o) : w.drew.heap[k]? = some o := h
theorem lit_get {w : World} {g : Nat} {cs : Array Value} {t : TypeId} {fr : Nat × Nat} (h : w.heap[g]? = some (.cells cs t fr)) (hall : cs.toList.all isStr = true) {i : Nat} (hi : i < cs.size) : ∃ x : ByteArray, w.cell? ⟨g, i, none⟩ = some (.string x) ∧ x.size ≤ 4064 := by
  obtain ⟨x, hx, hs⟩ := isStr_get hall hi
  exact ⟨x, by rw [cell_of_row _ _ _ _ _ _ h]; exact hx, hs⟩
/-- What a further message does to a sender's state. -/
theorem keeps_facts (s : Nat) (hs : 1 ≤ s ∧ s ≤ 256) (X : List ByteArray) (m : ByteArray) (hX : X.length < 14) (hXs : ∀ x ∈ X, x.size ≤ 4064) (hm : m.size ≤ 4064) (p : Option Addr) (n c : Nat) (hc1 : n ≤ c) (hc2 : c ≤ 9223372036854775807) : ∃ (Y : List ByteArray) (F1 : Nat) (D1 : List ByteArray), Y = X ++ [m] ∧ stF s Y = F1 ∧ stD s Y = D1 ∧ (∀ x ∈ Y, x.size ≤ 4064) ∧ Y.length = X.length + 1 ∧
    (∀ V, StrRow V p n (stD s X) → Calls Try.prog 12 #[.agg #[.int .i64 s, .int .i64 (stF s X : Nat), .slice p n c], .string m] V fun e w' => (∃ b' o' n' c', e = .returned (.tuple #[.agg #[.int .i64 s, .int .i64 (F1 : Nat), .slice (some ⟨b', o', none⟩) n' c'], .int .i64 (X.length : Nat), .int .i64 0]) ∧ V.heap.size ≤ b' ∧ StrRow w' (some ⟨b', o', none⟩) n' D1 ∧ n' ≤ c' ∧ c' ≤ 9223372036854775807) ∧ Below V.heap.size V w') ∧
    (∀ V p' n' c', StrRow V p' n' D1 → Calls Try.prog 13 #[.agg #[.int .i64 s, .int .i64 (F1 : Nat), .slice p' n' c']] V fun e w' => e = .returned (.bool true) ∧ Below V.heap.size V w') ∧
    (∀ V p' n' c', n' = D1.length → Calls Try.prog 14 #[.agg #[.int .i64 s, .int .i64 (F1 : Nat), .slice p' n' c']] V fun e w' => e = .returned (.int .i64 ((X.length : Int) + 1)) ∧ Below V.heap.size V w') := by
  have hY : ∀ x ∈ X ++ [m], x.size ≤ 4064 := fun x hx => by
    rw [List.mem_append] at hx
    rcases hx with hx | hx
    · exact hXs x hx
    · simp at hx; subst hx; exact hm
  have hl : (X ++ [m]).length = X.length + 1 := by simp
  refine ⟨X ++ [m], stF s (X ++ [m]), stD s (X ++ [m]), rfl, rfl, rfl, hY, hl, fun V hV => ?_, fun V p' n' c' hV => ?_, fun V p' n' c' hn => ?_⟩
  · exact snd_pushX s X m p n c hs (by omega) hXs hm ⟨hc1, hc2⟩ V hV
  · exact snd_valid s _ _ p' n' c' (st_ok hs (by omega) hY) V hV
  · have hd := stD_length s (X ++ [m])
    have q := snd_next s (stF s (X ++ [m])) p' n' c' (by unfold stF; omega) (by omega) V
    have e : ((stF s (X ++ [m]) : Nat) : Int) + (n' : Int) = (X.length : Int) + 1 := by unfold stF; omega
    rw [e] at q
    exact q
set_option maxHeartbeats 8000000 in
set_option maxRecDepth 100000 in
theorem sender_keeps (a : Option Addr) (len cap : Nat) (W : World) (hr : IntRow W a len) :
    Calls Try.prog 3 #[.slice a len cap] W fun e w' => e = .returned (.bool true) ∧ Below W.heap.size W w' := by
  have QS := hide (fun w => snd_sane w)
  have q1 := fun w => made_light a len cap hr.1 w
  by_cases hl : len ≤ 500
  · rw [decide_eq_true hl] at q1
    have Q1 := hide q1
    have Q2 := hide (made_roll a len cap W hr)
    obtain ⟨i0, hi0, hz0, hz1, hz2⟩ := info_parts info_str
    clear q1 hl hr
    go_enter Try.func3, Try.ntmps3
    go_wp2_with (first
      | (go_at_call 6; (with_reducible refine (Q1.out _).mono ?_); rintro e w1 ⟨rfl, rfl⟩)
      | (go_at_call 8; (with_reducible refine (Q2.out).mono ?_); rintro e w1 ⟨rfl, hd1⟩; (have HD := hide hd1); clear hd1)
      | (go_at_call 9; (with_reducible refine (made_pick (W := W) (a := a) (len := len) (cap := cap) (fun x => decide (1 ≤ x ∧ x ≤ 8)) _ _ ?_ ?_ ?_ _ ?_ ?_).mono ?_); (focus rfl); (focus decide); (focus rfl); (focus exact HD.out); (focus rfl); rintro e w2 ⟨⟨x, rfl, hx⟩, hd1, hr1⟩; (have HD := hide hd1); (obtain ⟨s, rfl⟩ : ∃ s : Nat, x = (s : Int) := ⟨x.toNat, by simp at hx; omega⟩); (have hs : 1 ≤ s ∧ s ≤ 256 := by (simp at hx; omega)); clear hd1 hr1 hx)
      | (go_at_call 10; (with_reducible refine (snd_new s hs _).mono ?_); rintro e w3 ⟨rfl, hb⟩; (have HD := hide (HD.out.keep hb)); clear hb))
    have hdl := HD.out.lt
    have G := hide (heap_alloc_new w3 (.cells #[.int .i64 s, .int .i64 0, .slice none 0 0] 30))
    have HD2 := hide (HD.out.alloc (.cells #[.int .i64 s, .int .i64 0, .slice none 0 0] 30))
    have hwg : W.heap.size ≤ w3.heap.size := HD.out.low.size
    have hsz : (w3.alloc (.cells #[.int .i64 s, .int .i64 0, .slice none 0 0] 30)).heap.size = w3.heap.size + 1 := by simp
    generalize w3.alloc (.cells #[.int .i64 s, .int .i64 0, .slice none 0 0] 30) = W3 at *
    generalize w3.heap.size = g at *
    have HSZ := hide hsz
    clear HD hsz Q1 Q2
    go_loopw [7, 8] (fun v i wr => ∃ X : List ByteArray, X.length ≤ 14 ∧ i = .int .i64 X.length ∧ Hid (∀ x ∈ X, x.size ≤ 4064) ∧ Hid (wr.ownsRow W3.heap.size 9 1 v X.length (strVals X)) ∧ Hid (Die W a len cap W.heap.size wr) ∧ Hid (W3.heap.size ≤ wr.heap.size) ∧ ∃ p n c, Hid (wr.heap[g]? = some (.cells #[.int .i64 s, .int .i64 (stF s X : Nat), .slice p n c] 30 (0, 0))) ∧ Hid (StrRow wr p n (stD s X)) ∧ n ≤ c ∧ c ≤ 9223372036854775807 ∧ Hid (∀ b off, p = some ⟨b, off, none⟩ → W3.heap.size ≤ b ∧ v.ownBlock ≠ some b)) (fun _ i _ => 14 - (intOf i).toNat)
    case atStart => exact ⟨[], by simp, rfl, hide (fun x hx => by cases hx), World.ownsRow_nil _ _ _ _, HD2, Nat.le_refl _, none, 0, 0, by rw [show stF s [] = 0 by simp [stF]]; exact G, by rw [show stD s [] = [] by simp [stD]]; exact ⟨rfl, .inl rfl⟩, by omega, by omega, hide (fun b off h => by cases h)⟩
    case round =>
      clear G HD2
      obtain ⟨X, hX, rfl, HXS, HO, HD, HW3, p, n, c, G, HST, hc1, hc2, HP⟩ := hrel
      by_cases hlt : X.length < 14
      · have hin : (X.length : Int) < 14 := by omega
        have hkf := fun (m : ByteArray) (hm : m.size ≤ 4064) => keeps_facts s hs X m hlt HXS.out hm p n c hc1 hc2
        have hlX : (strVals X).length = X.length := by simp [strVals]
        generalize stF s X = F0 at *
        generalize stD s X = D0 at *
        obtain ⟨i, hi⟩ : ∃ i, X.length = i := ⟨_, rfl⟩
        rw [hi] at hkf hlt hin HO hX hlX ⊢
        have HI := hide hi
        have HKF := hide hkf
        clear hkf hi
        have HOL := hide (own_lt HO.out)
        obtain ⟨c0, c1, c2, f0, f1, f2⟩ := tri_cells G.out
        have hwr : W.heap.size < wr.heap.size := by have := HW3.out; have := HSZ.out; omega
        go_wp2_with (first
          | (go_at_call 11; (with_reducible refine (made_next W a len cap _ 4 ?_ _ (HD.out.alloc _)).mono ?_); (focus omega); rintro e w4 ⟨⟨x, rfl, x0, x1⟩, hd1, hr1⟩;
              (obtain ⟨j, rfl⟩ : ∃ j : Nat, x = (j : Int) := ⟨x.toNat, by omega⟩);
              (have hlit := (hr1.block wr.heap.size (by simp) (by omega)).trans (heap_alloc_new wr _));
              (obtain ⟨m, hm, hms⟩ := lit_get hlit (by decide) (i := j) (by simp; omega));
              (obtain ⟨Y, F1, D1, hY, hF1, hD1, hYs, hYl, qpush, qval, qnext⟩ := HKF.out m hms);
              (have HY := hide hY); (have HF1 := hide hF1); (have HD1 := hide hD1); (have HYS := hide hYs); (have HYL := hide hYl); (have QPU := hide qpush); (have QVA := hide qval); (have QNX := hide qnext);
              (have HST := hide ((HST.out.keep (below1 _)).rolls hr1 (fun b off hb => by (have := (HP.out b off hb).1; have := HSZ.out; omega))));
              (have HO := hide (owns_heap HO.out (fun k hk1 hk2 => (hr1.block k (by (simp; omega)) (by have := HSZ.out; omega)).trans (Below.heap_alloc _ _ _ hk2))));
              (have HWN := hide (show wr.heap.size ≤ w4.heap.size from by (have := hr1.size; simp at this; omega)));
              (have G := hide ((hr1.block g (by (have := (Array.getElem?_eq_some_iff.1 G.out).1; simp; omega)) (by omega)).trans (pair_alloc G.out _)));
              (have HD := hide hd1); clear c0 c1 c2 f0 f1 f2 hd1 hr1 hlit hY hF1 hD1 hYs hYl qpush qval qnext; (obtain ⟨c0, c1, c2, f0, f1, f2⟩ := tri_cells G.out))
          | (go_at_call 12; (with_reducible refine (QPU.out _ ?_).mono ?_); (focus exact HST.out); rintro e w5 ⟨⟨b', o', n', c', rfl, hbb, hst, h1, h2⟩, hb⟩;
              (have HBW := hide (Nat.le_trans HWN.out hbb)); (have HST2 := hide hst); (have HD := hide (HD.out.keep hb)); (have HO := hide (owns_heap HO.out (fun k hk1 hk2 => hb.block k hk2))); (have G := hide ((hb.block _ (Array.getElem?_eq_some_iff.1 G.out).1).trans G.out)); (have HBB := hide hbb); (have HWN := hide (Nat.le_trans HWN.out hb.size)); clear c0 c1 c2 f0 f1 f2 hb hst hbb; (obtain ⟨c0, c1, c2, f0, f1, f2⟩ := tri_cells G.out))
          | (go_at_call 13; (with_reducible refine (QVA.out _ _ _ _ ?_).mono ?_); (focus exact HST2.out.keep (below1 _)); rintro e w6 ⟨rfl, hb⟩;
              (have HST2 := hide ((HST2.out.keep (below1 _)).keep hb)); (have HD := hide ((HD.out.alloc _).keep hb)); (have HO := hide (owns_heap HO.out (fun k hk1 hk2 => (hb.block k (by simp; omega)).trans (Below.heap_alloc _ _ _ hk2)))); (have G := hide ((hb.block _ (Array.getElem?_eq_some_iff.1 (pair_alloc G.out _)).1).trans (pair_alloc G.out _)));
              (have G10 := hide ((hb.block _ (by simp)).trans (heap_alloc_new w5 _))); (have HW5 := hide (show w5.heap.size < w6.heap.size from by (have := hb.size; simp at this; omega)));
              clear c0 c1 c2 f0 f1 f2 hb; (obtain ⟨c0, c1, c2, f0, f1, f2⟩ := tri_cells G.out); (obtain ⟨d0, d1, d2, -, -, -⟩ := tri_cells G10.out))
          | (go_at_call 14; (with_reducible refine (QNX.out _ _ _ _ ?_).mono ?_); (focus exact HST2.out.1); rintro e w7 ⟨rfl, hb⟩;
              (have HST2 := hide (HST2.out.keep hb)); (have HD := hide (HD.out.keep hb)); (have HO := hide (owns_heap HO.out (fun k hk1 hk2 => hb.block k hk2))); (have G := hide ((hb.block _ (Array.getElem?_eq_some_iff.1 G.out).1).trans G.out));
              (have G10 := hide ((hb.block _ (Array.getElem?_eq_some_iff.1 G10.out).1).trans G10.out)); (have HW7 := hide hb.size);
              clear c0 c1 c2 f0 f1 f2 d0 d1 d2 hb; (obtain ⟨c0, c1, c2, f0, f1, f2⟩ := tri_cells G.out); (obtain ⟨d0, d1, d2, -, -, -⟩ := tri_cells G10.out)))
        have hg10 : g < w5.heap.size := by have := HWN.out; have := HW3.out; have := HSZ.out; omega
        have hg10' : w5.heap.size < w7.heap.size := by have := HW5.out; have := HW7.out; omega
        have HWN5 := hide HWN.out
        have hg8 : g < w7.heap.size := (Array.getElem?_eq_some_iff.1 G.out).1
        have hgne : u7.ownBlock ≠ some g := fun hc => by have := (HOL.out _ hc).1; have := HSZ.out; omega
        have HGNE := hide hgne
        clear hgne
        have keepS : ∀ w' : World, w'.heap[w5.heap.size]? = some (.cells #[.int .i64 s, .int .i64 F1, .slice (some ⟨b', o', none⟩) n' c'] 30 (0, 0)) → (w'.cell? ⟨w5.heap.size, 0, none⟩ = some (.int .i64 s) ∧ w'.cell? ⟨w5.heap.size, 1, none⟩ = some (.int .i64 F1) ∧ w'.cell? ⟨w5.heap.size, 2, none⟩ = some (.slice (some ⟨b', o', none⟩) n' c')) := fun w' h => by
          obtain ⟨x0, x1, x2, -, -, -⟩ := tri_cells h
          exact ⟨x0, x1, x2⟩
        have KS := hide keepS
        have hne : w5.heap.size ≠ g := by omega
        have HNE := hide hne
        clear keepS d0 d1 d2 hne
        go_region_held3 (fun w' => w'.cell? ⟨w5.heap.size, 0, none⟩ = some (.int .i64 s) ∧ w'.cell? ⟨w5.heap.size, 1, none⟩ = some (.int .i64 F1) ∧ w'.cell? ⟨w5.heap.size, 2, none⟩ = some (.slice (some ⟨b', o', none⟩) n' c'))
          (first
            | (with_reducible exact KS.out _ (heap_drew G10.out))
            | (with_reducible exact KS.out _ (heap_drew (pair_alloc G10.out _)))
            | (with_reducible exact KS.out _ (pair_alloc (heap_drew G10.out) _))
            | (with_reducible exact KS.out _ hk10)
            | (with_reducible exact KS.out _ (heap_set3 hk10 HNE.out _ _ _))
            | (with_reducible exact KS.out _ (heap_drew (heap_set3 hk10 HNE.out _ _ _))))
          ((refine step_append_lies _ (by rfl) _ _ 28 (by rfl) W3.heap.size 9 i0 _ 1 16 Try.underlying28 hi0 hz0 hz1 hz2 rfl (by decide) _ i (strVals X) (by rfl) ((HO.out.alloc _).drew) ⟨w7.heap.size, 0, none⟩ 1 1 [.string m] (by rfl) (by rfl) (World.news_of_block (cs := #[.string m]) (t := 9) (fr := (0, 0)) (heap_alloc_new w7 _)) (by simp [Value.oneCell']) (by omega) (by unfold maxLen; omega) (by omega) (by have := HW3.out; have := HWN5.out; simp; omega) _ rfl ?_; intro gg cg w8 hown8 hgr hat hlt8;
            (have hk10 := (hgr.block w5.heap.size (by simp; omega) (fun hc => by (have := (HOL.out _ hc.symm).2; have := HWN5.out; omega))).trans (pair_alloc G10.out _)); (have hkg := (hgr.block g (by simp; omega) (fun hc => HGNE.out hc.symm)).trans (pair_alloc G.out _)); (obtain ⟨z0, z1, z2, z3, z4, z5⟩ := tri_cells hkg)))
        have hgne := HGNE.out
        have G8 := hide ((hgr.block g (by simp; omega) (fun hc => hgne hc.symm)).trans (pair_alloc G.out _))
        have hn1 : 0 < n' := by
          have e1 := HST2.out.1
          have e2 := stD_length s Y
          rw [HD1.out] at e2
          have := HYL.out
          omega
        have hb7 : b' < w7.heap.size := HST2.out.lt hn1
        have hbne : u7.ownBlock ≠ some b' := fun hc => by have := (HOL.out _ hc).2; have := HBW.out; omega
        have hbg : b' ≠ g := by have := HBW.out; have := HW3.out; have := HSZ.out; omega
        have hdz : W.heap.size < W3.heap.size := by have := HSZ.out; omega
        have hB8 : Below W3.heap.size w7 w8 := ((Below.refl W3.heap.size w7).alloc (by have := HW3.out; have := HWN5.out; omega) _).drew.grown hgr (by have := HW3.out; have := HWN5.out; simp; omega) (fun k hk => (HOL.out k hk).1)
        have HD8 := hide (HD.out.keepB hB8 hdz (by have := HSZ.out; omega))
        have hST8 : w8.heap[b']? = w7.heap[b']? := (hgr.block b' (by simp; omega) (fun hc => hbne hc.symm)).trans (Below.heap_alloc _ _ _ hb7)
        have HP8 : Hid (∀ b off, some (⟨b', o', none⟩ : Addr) = some ⟨b, off, none⟩ → W3.heap.size ≤ b ∧ (Value.slice (some ⟨gg, 0, none⟩) (i + 1) cg).ownBlock ≠ some b) := hide (fun b off hbo => by
          injection hbo with h1
          injection h1 with h2 h3
          subst h2
          refine ⟨by have := HBW.out; have := HW3.out; omega, ?_⟩
          simp [Value.ownBlock]
          rcases hat with hh | hh
          · intro he
            subst he
            exact hbne hh
          · simp at hh; omega)
        have hsz8 : w7.heap.size ≤ w8.heap.size := by have := hgr.size; simp at this; omega
        have HHG := hide hgr
        have HAT := hide hat
        have HB8 := hide hB8
        have HST8 := hide hST8
        have HO8 := hide hown8
        clear hgr hat hB8 hST8 hown8 hk10
        rename_i hSS
        clear hSS c0 c1 c2 f0 f1 f2 z0 z1 z2 z3 z4 z5 hkg
        go_wp2_with fail
        generalize hW9 : ((w8.setCell ⟨g, 0, none⟩ (.int .i64 s)).setCell ⟨g, 1, none⟩ (.int .i64 F1)).setCell ⟨g, 2, none⟩ (.slice (some ⟨b', o', none⟩) n' c') = W9
        have G9 : Hid (W9.heap[g]? = some (.cells #[.int .i64 s, .int .i64 F1, .slice (some ⟨b', o', none⟩) n' c'] 30 (0, 0))) := by rw [← hW9]; exact tri_set G8.out _ _ _
        have hk9 : ∀ k, k ≠ g → W9.heap[k]? = w8.heap[k]? := fun k hk => by rw [← hW9, heap_set hk, heap_set hk, heap_set hk]
        have hz9 : W9.heap.size = w8.heap.size := by rw [← hW9]; simp [World.setCell]
        have hBW : Below (W.heap.size + 1) w8 W9 := by
          rw [← hW9]
          exact (((Below.refl (W.heap.size + 1) w8).setCell (p := ⟨g, 0, none⟩) hdl _).setCell (p := ⟨g, 1, none⟩) hdl _).setCell (p := ⟨g, 2, none⟩) hdl _
        have HD9 := hide (HD8.out.keepB hBW (Nat.lt_succ_self _) (Nat.le_succ _))
        have HO9 := hide (owns_heap HO8.out (fun k hk1 hk2 => hk9 k (by have := HSZ.out; omega)))
        obtain ⟨-, hst0 | ⟨b0, off0, hp0, hst0⟩⟩ := HST2.out
        · omega
        injection hp0 with hp0
        injection hp0 with hp1 hp2
        subst hp1
        subst hp2
        have hn9 := HST2.out.1
        have HST9 := hide (strRow_of (w' := W9) hn9 hst0 ((hk9 b' hbg).trans HST8.out))
        have HW9 : Hid (W3.heap.size ≤ W9.heap.size) := by show _ ≤ _; rw [hz9]; have := HW3.out; have := HWN5.out; omega
        clear hW9 hBW
        have QGY := hide (fun (V : World) (kk : Nat) (h1' : Y.length ≤ kk + s) (h2' : kk < Y.length) (hV : StrRow V (some ⟨b', o', none⟩) n' D1) => by
          have q := snd_getX_yes s Y kk (some ⟨b', o', none⟩) n' c' hs (by have := HYL.out; omega) HYS.out ⟨h1, h2⟩ h1' h2' V (by rw [HD1.out]; exact hV)
          rw [HF1.out] at q
          exact q)
        have QGN := hide (fun (V : World) (kk : Int) (hk : kk < (F1 : Nat) ∨ (Y.length : Int) ≤ kk) (hV : StrRow V (some ⟨b', o', none⟩) n' D1) => by
          have q := snd_getX_no s Y kk (some ⟨b', o', none⟩) n' c' hs (by have := HYL.out; omega) HYS.out (by rw [HF1.out]; exact hk) V (by rw [HD1.out]; exact hV)
          rw [HF1.out] at q
          exact q)
        have hYi : Y.length = i + 1 := by have := HYL.out; have := HI.out; omega
        have hF1s : F1 = i + 1 - s := by rw [← HF1.out]; unfold stF; omega
        have HYI := hide hYi
        have HF1S := hide hF1s
        have hsv : strVals X ++ [.string m] = strVals Y := by rw [HY.out]; simp [strVals]
        rw [hsv] at HO9
        have hcells : ∀ kk (hk : kk < Y.length), W9.cell? ⟨gg, kk, none⟩ = some (.string Y[kk]) := fun kk hk => by
          have ho := Own.of_ownsRow HO9.out
          have := ((ho.cells rfl).2 _ rfl).2 kk (.string Y[kk]) (by rw [strVals, List.getElem?_map, List.getElem?_eq_getElem hk]; rfl)
          have hadd : (⟨gg, 0, none⟩ : Addr).add kk = ⟨gg, kk, none⟩ := by
            unfold Addr.add; split
            · rename_i h; subst h; rfl
            · simp
          rw [hadd] at this
          exact this
        have HCE := hide hcells
        clear hcells hsv hYi hF1s hn9 hst0 hk9 hz9 HKF HD HO G HST HST2 G8 HD8 HO8 HST8 HB8 HHG G10 QPU QVA QNX KS
        go_loopw [13] (fun kv wl => ∃ j2 : Int, -1 ≤ j2 ∧ j2 ≤ (i : Int) + 2 ∧ kv = .int .i64 j2 ∧ Hid (Below W9.heap.size W9 wl)) (fun kv _ => ((i : Int) + 2 - intOf kv).toNat)
        case atStart => exact ⟨-1, by omega, by omega, rfl, Below.refl _ _⟩
        case round =>
          obtain ⟨j2, hj1, hj2, rfl, HB9⟩ := hrel
          have G := hide ((HB9.out.block _ (Array.getElem?_eq_some_iff.1 G9.out).1).trans G9.out)
          have HST := hide (HST9.out.keep HB9.out)
          obtain ⟨c0, c1, c2, f0, f1, f2⟩ := tri_cells G.out
          by_cases hle : j2 ≤ (i : Int) + 1
          · by_cases hyes : 0 ≤ j2 ∧ j2 ≤ (i : Int) ∧ (i : Int) - (s : Int) < j2
            · obtain ⟨y1, y2, y3⟩ := hyes
              obtain ⟨kk, rfl⟩ : ∃ kk : Nat, j2 = (kk : Int) := ⟨j2.toNat, by omega⟩
              have hkY : kk < Y.length := by have := HYI.out; omega
              have y0 : wr.cell? ⟨gg, kk, none⟩ = some (.string (Y[kk]'hkY)) := by rw [HB9.out.cell (block_lt_of_cell (HCE.out kk hkY))]; exact HCE.out kk hkY
              have qg := fun (V : World) (hV : StrRow V (some ⟨b', o', none⟩) n' D1) => QGY.out V kk (by have := HYI.out; omega) hkY hV
              generalize Y[kk]'hkY = yv at *
              have QG := hide qg
              clear qg
              have e1 : decide ((kk : Int) ≤ (i : Int)) = true := by simp; omega
              have e1' : decide (kk ≤ i) = true := by simp; omega
              have e2 : decide ((i : Int) - (s : Int) < (kk : Int)) = true := by simp; omega
              have e3 : (kk : Int) < (i : Int) + 1 := by omega
              go_wp2_with (first
                | (go_at_call 15; (with_reducible refine (QG.out _ ?_).mono ?_); (focus exact HST.out); rintro e w10 ⟨rfl, hb⟩; (have HB9 := hide (HB9.out.trans (hb.mono HB9.out.size))); (have G := hide ((hb.block _ (Array.getElem?_eq_some_iff.1 G.out).1).trans G.out)); clear c0 c1 c2 f0 f1 f2; (obtain ⟨c0, c1, c2, f0, f1, f2⟩ := tri_cells G.out); (have y1 : w10.cell? ⟨gg, kk, none⟩ = some (.string yv) := (by (rw [hb.cell (block_lt_of_cell y0)]; exact y0))); clear hb y0))
              go_roundw
              case rel => exact ⟨(kk : Int) + 1, by omega, by omega, rfl, HB9⟩
              case measure => simp [intOf]; omega
            · have qg := fun (V : World) (hV : StrRow V (some ⟨b', o', none⟩) n' D1) => QGN.out V j2 (by have := HYI.out; have := HF1S.out; omega) hV
              have QG := hide qg
              clear qg
              have hsub : (j2 < 0 ∧ decide (0 ≤ j2) = false) ∨ (0 ≤ j2 ∧ decide (j2 ≤ (i : Int)) = true ∧ decide ((i : Int) - (s : Int) < j2) = false) ∨ (0 ≤ j2 ∧ decide (j2 ≤ (i : Int)) = false) := by
                by_cases h1 : j2 < 0
                · exact .inl ⟨h1, by simp; omega⟩
                · by_cases h2 : j2 ≤ (i : Int)
                  · exact .inr (.inl ⟨by omega, by simp; omega, by simp; omega⟩)
                  · exact .inr (.inr ⟨by omega, by simp; omega⟩)
              clear hyes
              rcases hsub with ⟨k1, k2⟩ | ⟨k1, k2, k3⟩ | ⟨k1, k2⟩
              all_goals
                go_wp2_with (first
                  | (go_at_call 15; (with_reducible refine (QG.out _ ?_).mono ?_); (focus exact HST.out); rintro e w10 ⟨rfl, hb⟩; (have HB9 := hide (HB9.out.trans (hb.mono HB9.out.size))); (have G := hide ((hb.block _ (Array.getElem?_eq_some_iff.1 G.out).1).trans G.out)); clear c0 c1 c2 f0 f1 f2; (obtain ⟨c0, c1, c2, f0, f1, f2⟩ := tri_cells G.out); clear hb))
                go_roundw
                case rel => exact ⟨j2 + 1, by omega, by omega, rfl, HB9⟩
                case measure => simp [intOf]; omega
          · have hj3 : j2 = (i : Int) + 2 := by omega
            have HOF := hide (owns_heap HO9.out (fun k hk1 hk2 => HB9.out.block k hk2))
            have HDF := hide (HD9.out.keep HB9.out)
            have HWF := hide (Nat.le_trans HW9.out HB9.out.size)
            have hz : decide (j2 ≤ (i : Int) + 1) = false := by simp; omega
            clear hj3 hle c0 c1 c2 f0 f1 f2
            go_wp2
            go_roundw
            case rel => exact ⟨Y, by have := HYI.out; omega, by rw [HYI.out]; go_num, HYS, hide (by rw [HYI.out]; exact HOF.out), HDF, HWF, some ⟨b', o', none⟩, n', c', hide (by rw [HF1.out]; exact G.out), hide (by rw [HD1.out]; exact HST.out), h1, h2, HP8⟩
            case measure => simp [intOf]; omega
      · have hx : X.length = 14 := by omega
        have hx2 : (X.length : Int) = 14 := by omega
        have HDX := hide HD.out.low
        clear hX hlt
        go_wp2_with (first
          | (go_at_call 7; (with_reducible refine (QS.out _).mono ?_); rintro e w4 ⟨rfl, hb⟩; (have HDX := hide (HDX.out.trans (hb.mono HDX.out.size))); clear hb))
        go_ret
        exact ⟨rfl, HDX.out⟩
  · rw [decide_eq_false hl] at q1
    have Q1 := hide q1
    clear q1 hl hr
    go_enter Try.func3, Try.ntmps3
    go_wp2_with (first
      | (go_at_call 6; (with_reducible refine (Q1.out _).mono ?_); rintro e w1 ⟨rfl, rfl⟩)
      | (go_at_call 7; (with_reducible refine (QS.out _).mono ?_); rintro e w1 ⟨rfl, hb⟩))
    go_ret
    exact ⟨rfl, hb⟩
end Go.Proofs.Ytpniokkllkjhhaa
