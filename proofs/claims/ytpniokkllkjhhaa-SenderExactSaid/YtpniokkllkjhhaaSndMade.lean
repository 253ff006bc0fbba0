/- The walk of the dice's Sender. -/
import Derived.Test.YtpniokkllkjhhaaSndRefC
import Derived.Test.YtpniokkllkjhhaaSndSpanB
import Derived.Test.YtpniokkllkjhhaaSndKeepsLaw
namespace Go.Proofs.Ytpniokkllkjhhaa
open Go.RowKit
set_option linter.unusedVariables false
set_option linter.unusedSimpArgs false
theorem sref_pushX (s : Nat) (X : List ByteArray) (x : ByteArray) (p : Option Addr) (n c : Nat) (hs : 1 ≤ s ∧ s ≤ 256) (hX : X.length ≤ 1000000) (hXs : ∀ x ∈ X, x.size ≤ 4064) (hx : x.size ≤ 4064) (hc : n ≤ c ∧ c ≤ 9223372036854775807) (hp : p = none → n = 0 ∧ c = 0) (w : World) (hr : StrRow w p n (stD s X)) :
    Calls Try.prog 17 #[.agg #[.int .i64 s, .int .i64 (stF s X : Nat), .slice p n c], .string x] w fun e w' => (∃ b' o' n' c', e = .returned (.tuple #[.agg #[.int .i64 s, .int .i64 (stF s (X ++ [x]) : Nat), .slice (some ⟨b', o', none⟩) n' c'], .int .i64 (X.length : Nat), .int .i64 0]) ∧ w.heap.size ≤ b' ∧ StrRow w' (some ⟨b', o', none⟩) n' (stD s (X ++ [x])) ∧ n' ≤ c' ∧ c' ≤ 9223372036854775807) ∧ Below w.heap.size w w' := by
  have hl := stD_length s X
  have e1 : stF s X + (stD s X).length = X.length := by unfold stF; omega
  cases p with
  | none =>
    obtain ⟨rfl, rfl⟩ := hp rfl
    have q := sref_push_none s (stF s X) (stD s X) x (st_ok hs hX hXs) hx (by unfold stF; omega) w hr
    rw [(st_push hs.1 X x).1, (st_push hs.1 X x).2, e1] at q
    exact q
  | some ad =>
    have q := sref_push_some s (stF s X) (stD s X) x ad n c (st_ok hs hX hXs) hx (by unfold stF; omega) hc w hr
    rw [(st_push hs.1 X x).1, (st_push hs.1 X x).2, e1] at q
    exact q
theorem lit_at {w : World} {g i : Nat} {cs : Array Value} {t : TypeId} {fr : Nat × Nat} {v : Value} (h : w.heap[g]? = some (.cells cs t fr)) (hv : cs[i]? = some v) : w.cell? ⟨g, i, none⟩ = some v := by rw [cell_of_row _ _ _ _ _ _ h]; exact hv
set_option maxHeartbeats 8000000 in
set_option maxRecDepth 100000 in
theorem made_sender {W : World} {a : Option Addr} {len cap gd : Nat} (w : World) (hd : Die W a len cap gd w) :
    Calls Try.prog 16 #[.pointer (some ⟨gd, 0, none⟩)] w fun e w' => (∃ (s : Nat) (X : List ByteArray) (p : Option Addr) (n c : Nat), e = .returned (.agg #[.int .i64 s, .int .i64 (stF s X : Nat), .slice p n c]) ∧ 1 ≤ s ∧ s ≤ 8 ∧ X.length ≤ 8 ∧ (∀ x ∈ X, x.size ≤ 4064) ∧ StrRow w' p n (stD s X) ∧ n ≤ c ∧ c ≤ 9223372036854775807 ∧ ∀ b off, p = some ⟨b, off, none⟩ → w.heap.size < b) ∧ Die W a len cap gd w' ∧ Rolls gd w w' := by
  have hgB : gd < w.heap.size := hd.lt
  have hWB : W.heap.size ≤ w.heap.size := hd.low.size
  have HD := hide (hd.alloc (.cells #[.int .i64 0, .int .i64 0, .slice none 0 0] 30))
  have HR := hide (Rolls.of_below (g := gd) (below1 (w := w) (.cells #[.int .i64 0, .int .i64 0, .slice none 0 0] 30)))
  have H2 := hide (heap_alloc_new w (.cells #[.int .i64 0, .int .i64 0, .slice none 0 0] 30))
  clear hd
  go_enter Try.func16, Try.ntmps16
  go_wp2_with (first
    | (go_at_call 9; (with_reducible refine (made_pick (W := W) (a := a) (len := len) (cap := cap) (fun x => decide (1 ≤ x ∧ x ≤ 8)) _ _ ?_ ?_ ?_ _ ?_ ?_).mono ?_); (focus rfl); (focus decide); (focus rfl); (focus exact HD.out); (focus simp); rintro e w2 ⟨⟨x, rfl, hx⟩, hd1, hr1⟩; (have H2 := hide ((hr1.block _ (Array.getElem?_eq_some_iff.1 H2.out).1 (by omega)).trans H2.out)); (have HD := hide hd1); (have HR := hide (HR.out.trans hr1)); (obtain ⟨s, rfl⟩ : ∃ s : Nat, x = (s : Int) := ⟨x.toNat, by simp at hx; omega⟩); (have hs : 1 ≤ s ∧ s ≤ 8 := by (simp at hx; omega)); clear hd1 hr1 hx)
    | (go_at_call 25; (with_reducible refine (sref_new s ⟨by omega, by omega⟩ _).mono ?_); rintro e w3 ⟨rfl, hb⟩; (have H2 := hide ((hb.block _ (Array.getElem?_eq_some_iff.1 H2.out).1).trans H2.out)); (have HD := hide (HD.out.keep hb)); (have HR := hide (HR.out.trans (Rolls.of_below hb))); clear hb)
    | (go_at_call 11; (with_reducible refine (made_next W a len cap gd 9 ?_ _ (HD.out.alloc _)).mono ?_); (focus omega); rintro e w4 ⟨⟨y, rfl, y0, y1⟩, hd1, hr1⟩;
        (have HG3L := hide (Array.getElem?_eq_some_iff.1 H2.out).1); (have H3 := hide ((hr1.block w3.heap.size (by simp) (by have := HD.out.lt; omega)).trans (heap_alloc_new w3 _))); (have H2 := hide ((hr1.block _ (by have := (Array.getElem?_eq_some_iff.1 H2.out).1; simp; omega) (by omega)).trans (pair_alloc H2.out _))); (have hl2 := (Array.getElem?_eq_some_iff.1 H2.out).1); (have HD := hide hd1); (have HR := hide ((HR.out.trans (Rolls.of_below (below1 _))).trans hr1)); clear hd1 hr1))
  have hg3 : w.heap.size < w3.heap.size := by have := HG3L.out; exact this
  obtain ⟨k0, rfl⟩ : ∃ k0 : Nat, y = (k0 : Int) := ⟨y.toNat, by omega⟩
  generalize w3.heap.size = g at *
  have HG4 := hide (Array.getElem?_eq_some_iff.1 H3.out).1
  clear hl2
  go_loopw [5] (fun t wr => ∃ (X : List ByteArray) (k : Nat) (p : Option Addr) (n c : Nat), t = .int .i64 k ∧ X.length + k ≤ 8 ∧ Hid (∀ x ∈ X, x.size ≤ 4064) ∧ Hid (Die W a len cap gd wr) ∧ Hid (Rolls gd w wr) ∧ Hid (g < wr.heap.size) ∧ Hid (wr.heap[w.heap.size]? = some (.cells #[.int .i64 0, .int .i64 0, .slice none 0 0] 30 (0, 0))) ∧ Hid (wr.heap[g]? = some (.cells #[.int .i64 s, .int .i64 (stF s X : Nat), .slice p n c] 30 (0, 0))) ∧ Hid (StrRow wr p n (stD s X)) ∧ n ≤ c ∧ c ≤ 9223372036854775807 ∧ Hid (p = none → n = 0 ∧ c = 0) ∧ Hid (∀ b off, p = some ⟨b, off, none⟩ → g < b)) (fun t _ => (intOf t).toNat)
  case atStart => exact ⟨[], k0, none, 0, 0, rfl, by simp; omega, hide (fun x h => by cases h), HD, HR, HG4, H2, by rw [show stF s [] = 0 by simp [stF]]; exact H3, by rw [show stD s [] = [] by simp [stD]]; exact ⟨rfl, .inl rfl⟩, by omega, by omega, hide (fun _ => ⟨rfl, rfl⟩), hide (fun b off h => by cases h)⟩
  case round =>
    clear HD HR HG4 H2 H3
    obtain ⟨X, k, p, n, c, rfl, hlk, HXS, HD, HR, HGL, H2, G, HST, hc1, hc2, HPN, HPB⟩ := hrel
    by_cases hk : k = 0
    · subst hk
      obtain ⟨c0, c1, c2, f0, f1, f2⟩ := tri_cells G.out
      obtain ⟨e0, e1, e2, l0, l1, l2⟩ := tri_cells H2.out
      obtain ⟨z0, z1, z2⟩ := tri_set_cells H2.out (.int .i64 s) (.int .i64 (stF s X : Nat)) (.slice p n c)
      have hgd : gd < w.heap.size := hgB
      have HST2 := hide (HST.out.of_set (g := w.heap.size) (x := .int .i64 s) (y := .int .i64 (stF s X : Nat)) (z := .slice p n c) (fun b off hp => by have := HPB.out b off hp; omega))
      have HD2 := hide (HD.out.keepB' ((((Below.refl (gd + 1) wr).setCell (p := ⟨w.heap.size, 0, none⟩) (by show _ ≤ w.heap.size; omega) (.int .i64 s)).setCell (p := ⟨w.heap.size, 1, none⟩) (by show _ ≤ w.heap.size; omega) (.int .i64 (stF s X : Nat))).setCell (p := ⟨w.heap.size, 2, none⟩) (by show _ ≤ w.heap.size; omega) (.slice p n c)) (Nat.lt_succ_self _) (by have := HD.out.big; omega))
      have HR2 := hide (HR.out.below ((((Below.refl w.heap.size wr).setCell (p := ⟨w.heap.size, 0, none⟩) (Nat.le_refl _) (.int .i64 s)).setCell (p := ⟨w.heap.size, 1, none⟩) (Nat.le_refl _) (.int .i64 (stF s X : Nat))).setCell (p := ⟨w.heap.size, 2, none⟩) (Nat.le_refl _) (.slice p n c)))
      go_wp2
      (try simp only [Exit.inBlock, Exit.then])
      refine bodyPost_ret (v := .agg #[.int .i64 s, .int .i64 (stF s X : Nat), .slice p n c]) (by simp [results, Try.results16, go_sem, z0, z1, z2]) rfl ⟨⟨s, X, p, n, c, rfl, hs.1, hs.2, by omega, HXS.out, HST2.out, hc1, hc2, fun b off hp => by have := HPB.out b off hp; omega⟩, HD2.out, HR2.out⟩
    · have hk1 : 0 < k := by omega
      have hkp := fun (m : ByteArray) (hm : m.size ≤ 4064) (V : World) (hV : StrRow V p n (stD s X)) => sref_pushX s X m p n c ⟨by omega, by omega⟩ (by omega) HXS.out hm ⟨hc1, hc2⟩ HPN.out V hV
      generalize stF s X = F0 at *
      generalize stD s X = D0 at *
      have HKP := hide hkp
      clear hkp
      obtain ⟨c0, c1, c2, f0, f1, f2⟩ := tri_cells G.out
      have l0 := fun o => (tri_cells (pair_alloc G.out o)).1
      have l1 := fun o => (tri_cells (pair_alloc G.out o)).2.1
      have l2 := fun o => (tri_cells (pair_alloc G.out o)).2.2.1
      have hgr : gd < wr.heap.size := HD.out.lt
      have HPD := hide (fun b off (hb : p = some ⟨b, off, none⟩) => (show b ≠ gd from by have := HPB.out b off hb; omega))
      go_wp2_with fail
      go_region_with ((first
        | (go_at_call 11; (with_reducible refine (made_next W a len cap gd 4 ?_ _ ?_).mono ?_); (focus omega); (focus (first | exact HD.out.drew | exact (HD.out.alloc _).drew | exact HD.out.drew.alloc _)); rintro e w5 ⟨⟨y, rfl, y0, y1⟩, hd1, hr1⟩; (obtain ⟨j, rfl⟩ : ∃ j : Nat, y = (j : Int) := ⟨y.toNat, by omega⟩);
            (have G5 : Hid (w5.heap[g]? = some (.cells #[.int .i64 s, .int .i64 F0, .slice p n c] 30 (0, 0))) := (by (first | exact (hr1.block g (by have := HGL.out; simp; omega) (by omega)).trans (pair_alloc G.out _) | exact (hr1.block g HGL.out (by omega)).trans G.out)));
            (have H25 : Hid (w5.heap[w.heap.size]? = some (.cells #[.int .i64 0, .int .i64 0, .slice none 0 0] 30 (0, 0))) := (by (first | exact (hr1.block _ (by have := HGL.out; simp; omega) (by omega)).trans (pair_alloc H2.out _) | exact (hr1.block _ (by have := HGL.out; show _ < wr.heap.size; omega) (by omega)).trans H2.out)));
            (have HST5 : Hid (StrRow w5 p n D0) := (by (first | exact (HST.out.keep (below1 _).drew).rolls hr1 HPD.out | exact (HST.out.keep (Below.refl _ _).drew).rolls hr1 HPD.out)));
            (have HR5 : Hid (Rolls gd w w5) := (by (first | exact (HR.out.trans (Rolls.of_below (below1 _).drew)).trans hr1 | exact (HR.out.trans (Rolls.of_below (Below.refl _ _).drew)).trans hr1)));
            (have HD5 := hide hd1);
            (obtain ⟨m, hm, hms⟩ := isStr_get (cs := #[.string ⟨#[97]⟩, .string ⟨#[98, 99]⟩, .string ⟨#[]⟩, .string ⟨#[120, 121, 122]⟩]) (by decide) (i := j) (by simp; omega));
            (first | (have hmA : w5.cell? ⟨wr.heap.size, j, none⟩ = some (.string m) := (by (first | exact lit_at ((hr1.block wr.heap.size (by simp) (by omega)).trans (heap_alloc_new wr (.cells #[.string ⟨#[97]⟩, .string ⟨#[98, 99]⟩, .string ⟨#[]⟩, .string ⟨#[120, 121, 122]⟩] 9))) hm))) | skip);
            (have hmB := lit_at (heap_alloc_new w5 (.cells #[.string ⟨#[97]⟩, .string ⟨#[98, 99]⟩, .string ⟨#[]⟩, .string ⟨#[120, 121, 122]⟩] 9)) hm);
            (have QP := hide (HKP.out m hms)); (obtain ⟨m0, m1, m2, m3, m4, m5⟩ := tri_cells G5.out); (have n0 := fun o => (tri_cells (pair_alloc G5.out o)).1); (have n1 := fun o => (tri_cells (pair_alloc G5.out o)).2.1); (have n2 := fun o => (tri_cells (pair_alloc G5.out o)).2.2.1); clear hd1 hr1)
        | (go_at_call 17; (with_reducible refine (QP.out _ ?_).mono ?_); (focus (first | exact HST5.out | exact HST5.out.keep (below1 _))); rintro e w6 ⟨⟨b', o', n', c', rfl, hbb, hst, h1, h2⟩, hb⟩;
            (have G6 : Hid (w6.heap[g]? = some (.cells #[.int .i64 s, .int .i64 F0, .slice p n c] 30 (0, 0))) := (by (first | exact (hb.block g (Array.getElem?_eq_some_iff.1 G5.out).1).trans G5.out | exact (hb.block g (by have := (Array.getElem?_eq_some_iff.1 G5.out).1; simp; omega)).trans (pair_alloc G5.out _))));
            (have H26 : Hid (w6.heap[w.heap.size]? = some (.cells #[.int .i64 0, .int .i64 0, .slice none 0 0] 30 (0, 0))) := (by (first | exact (hb.block _ (Array.getElem?_eq_some_iff.1 H25.out).1).trans H25.out | exact (hb.block _ (by have := (Array.getElem?_eq_some_iff.1 H25.out).1; simp; omega)).trans (pair_alloc H25.out _))));
            (have HD6 : Hid (Die W a len cap gd w6) := (by (first | exact HD5.out.keep hb | exact (HD5.out.alloc _).keep hb)));
            (have HR6 : Hid (Rolls gd w w6) := (by (first | exact HR5.out.trans (Rolls.of_below hb) | exact (HR5.out.trans (Rolls.of_below (below1 _))).trans (Rolls.of_below hb))));
            (have HST6 := hide hst); (have HBB : Hid (g < b') := (by (first | exact Nat.lt_of_lt_of_le (Array.getElem?_eq_some_iff.1 G5.out).1 hbb | exact Nat.lt_of_lt_of_le (Array.getElem?_eq_some_iff.1 G5.out).1 (Nat.le_trans (by simp) hbb)))); (obtain ⟨p0, p1, p2, p3, p4, p5⟩ := tri_cells G6.out); clear hb hst hbb)))
      all_goals
        go_wp2
        go_roundw
        case rel => exact ⟨X ++ [m], k - 1, some ⟨b', o', none⟩, n', c', by first | go_num | (congr 1; omega), by simp; omega, hide (fun x hx => by
            rw [List.mem_append] at hx
            rcases hx with hx | hx
            · exact HXS.out x hx
            · simp at hx; subst hx; exact hms), hide (HD6.out.keepB' ((((Below.refl (gd + 1) w6).setCell (p := ⟨g, 0, none⟩) (by show _ ≤ g; omega) _).setCell (p := ⟨g, 1, none⟩) (by show _ ≤ g; omega) _).setCell (p := ⟨g, 2, none⟩) (by show _ ≤ g; omega) _) (Nat.lt_succ_self _) (by have := HD6.out.big; omega)),
          hide (HR6.out.below ((((Below.refl w.heap.size w6).setCell (p := ⟨g, 0, none⟩) (by show _ ≤ g; omega) _).setCell (p := ⟨g, 1, none⟩) (by show _ ≤ g; omega) _).setCell (p := ⟨g, 2, none⟩) (by show _ ≤ g; omega) _)), hide (by have := (Array.getElem?_eq_some_iff.1 G6.out).1; simp [World.setCell]; omega), hide (heap_set3 H26.out (by omega) _ _ _), hide (tri_set G6.out _ _ _), hide (HST6.out.of_set (fun b off hp => by injection hp with hp; injection hp with hp1 hp2; subst hp1; have := HBB.out; omega)), h1, h2, hide (fun h => by cases h), hide (fun b off hp => by injection hp with hp; injection hp with hp1 hp2; subst hp1; exact HBB.out)⟩
        case measure => simp [intOf]; omega
end Go.Proofs.Ytpniokkllkjhhaa
