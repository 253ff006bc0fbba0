/- The walk of the statements' dice: Anchors. -/
import Derived.Test.YtecoemdhnphmdaaClockWalkE
import Derived.Test.YtecoemdhnphmdaaDiceB
namespace Go.Proofs.Ytecoemdhnphmdaa
open Go.RowKit
set_option linter.unusedVariables false
set_option linter.unusedSimpArgs false
def ancVals : List Anc → List Value
  | [] => []
  | a :: L => .int .i64 a.tag :: .int .i64 a.low :: .int .i64 a.high :: ancVals L
theorem ancVals_append : ∀ L M : List Anc, ancVals (L ++ M) = ancVals L ++ ancVals M
  | [], _ => rfl
  | a :: L, M => by simp [ancVals, ancVals_append L M]
theorem ancVals_length : ∀ L : List Anc, (ancVals L).length = L.length * 3
  | [] => rfl
  | a :: L => by simp [ancVals, ancVals_length L]; omega
/-- The anchors of a list, by number. -/
def ancAt (L : List Anc) (i : Nat) : Anc := (L[i]?).getD ⟨0, 0, 0⟩
theorem ancVals_get : ∀ (L : List Anc) (i : Nat), i < L.length → (ancVals L)[i * 3]? = some (.int .i64 (ancAt L i).tag) ∧ (ancVals L)[i * 3 + 1]? = some (.int .i64 (ancAt L i).low) ∧ (ancVals L)[i * 3 + 2]? = some (.int .i64 (ancAt L i).high)
  | [], i, h => by simp at h
  | a :: L, 0, h => ⟨rfl, rfl, rfl⟩
  | a :: L, i + 1, h => by
    have ih := ancVals_get L i (by simpa using h)
    have e0 : (i + 1) * 3 = i * 3 + 1 + 1 + 1 := by omega
    have ea : ancAt (a :: L) (i + 1) = ancAt L i := rfl
    rw [ea, e0]
    exact ih
theorem Own.ancRow {w : World} {B : Nat} {e : TypeId} {v : Value} {n : Nat} {L : List Anc} (h : Own w B e 3 v n (ancVals L)) : ∃ p cap, v = .slice p L.length cap ∧ AncRow w p L.length (ancAt L) ∧ L.length ≤ cap ∧ cap ≤ 9223372036854775807 := by
  have h0 := h
  obtain ⟨hl, h⟩ := h
  have hn : L.length = n := by rw [ancVals_length] at hl; omega
  subst hn
  rcases h with ⟨rfl, h2⟩ | ⟨g, cap, cur, fr, rfl, h1, h2, h3, h4, h5, h6⟩
  · exact ⟨none, 0, by rw [h2], .inl h2, by omega, by omega⟩
  · refine ⟨_, cap, rfl, .inr ⟨g, 0, rfl, fun i hi => ?_⟩, h4, by unfold maxLen at h5; omega⟩
    have hadd : ∀ j, (⟨g, 0, none⟩ : Addr).add j = ⟨g, 0 + j, none⟩ := fun j => by
      unfold Addr.add; split
      · rename_i h; subst h; rfl
      · simp
    obtain ⟨x0, x1, x2⟩ := ancVals_get L i hi
    have c0 := ((h0.cells rfl).2 _ rfl).2 _ _ x0
    have c1 := ((h0.cells rfl).2 _ rfl).2 _ _ x1
    have c2 := ((h0.cells rfl).2 _ rfl).2 _ _ x2
    rw [hadd] at c0 c1 c2
    exact ⟨c0, by rw [Nat.add_assoc]; exact c1, by rw [Nat.add_assoc]; exact c2⟩
/-- Rows of the call's own stay while dice roll that lie elsewhere. -/
theorem Own.rolls {w w' : World} {B g : Nat} {e : TypeId} {size : Nat} {v : Value} {n : Nat} {xs : List Value} (h : Own w B e size v n xs) (hr : Rolls g w w') (hg : g < B) : Own w' B e size v n xs := by
  obtain ⟨hl, h⟩ := h
  rcases h with h | ⟨k, cap, cur, fr, h1, h2, h3, h4⟩
  · exact ⟨hl, .inl h⟩
  · exact ⟨hl, .inr ⟨k, cap, cur, fr, h1, h2, (hr.block k (Array.getElem?_eq_some_iff.1 h3).1 (by omega)).trans h3, h4⟩⟩
theorem Die.keepB {W : World} {a : Option Addr} {len cap g B : Nat} {w w' : World} (h : Die W a len cap g w) (hb : Below B w w') (hg : g < B) (hB : W.heap.size ≤ B) : Die W a len cap g w' := by
  obtain ⟨i, h1, h2⟩ := h.spot
  exact ⟨h.row, h.big, h.low.trans (hb.mono hB), i, h1, (hb.block g hg).trans h2⟩
theorem Rolls.below {g : Nat} {w0 w w' : World} (h : Rolls g w0 w) (hb : Below w0.heap.size w w') : Rolls g w0 w' :=
  ⟨Nat.le_trans h.size hb.size, fun k hk hg => (hb.block k hk).trans (h.block k hk hg)⟩
def AncSpec (b : Bool) (L : List Anc) (tg at' : Int) : Prop :=
  1000 ≤ tg ∧ tg ≤ 1000 + 20000 * (L.length : Int) ∧ 999999999000 ≤ at' ∧ at' ≤ 1000000000000 + 2020000 * (L.length : Int) ∧ (b = false → at' = 1000000000000 + tg - 1000) ∧
  (∀ a ∈ L, 1000 ≤ a.tag ∧ a.tag ≤ tg ∧ 999999998000 ≤ a.low ∧ a.low ≤ a.high ∧ a.high ≤ 1000100000000 ∧ (b = false → evenAt a)) ∧ L.Pairwise (fun a c => a.tag < c.tag)
theorem AncSpec.nil (b : Bool) : AncSpec b [] 1000 1000000000000 := ⟨by omega, by simp, by omega, by simp, fun _ => by omega, (by simp), List.Pairwise.nil⟩
theorem AncSpec.snoc {b : Bool} {L : List Anc} {tg at' : Int} (h : AncSpec b L tg at') (hl : L.length ≤ 5) {s j y z : Int} (s0 : 1000 ≤ s) (s1 : s ≤ 20000) (j0 : -500 ≤ j) (j1 : j ≤ 2000000) (hb : b = false → j = 0) (y0 : 0 ≤ y) (y1 : y < 40) (z0 : 0 ≤ z) (z1 : z < 40)
    {tg2 at2 : Int} (ht : tg2 = tg + s) (hat : at2 = at' + s + j) : AncSpec b (L ++ [⟨tg2, at2 - y, at2 + z⟩]) tg2 at2 := by
  obtain ⟨h1, h2, h3, h4, h5, h6, h7⟩ := h
  have hlen : ((L ++ [(⟨tg2, at2 - y, at2 + z⟩ : Anc)]).length : Int) = (L.length : Int) + 1 := by simp
  refine ⟨by omega, by rw [hlen]; omega, by omega, by rw [hlen]; omega, fun hf => by have := h5 hf; have := hb hf; omega, fun a ha => ?_, ?_⟩
  · rw [List.mem_append] at ha
    rcases ha with ha | ha
    · obtain ⟨a1, a2, a3, a4, a5, a6⟩ := h6 a ha
      exact ⟨a1, by omega, a3, a4, a5, a6⟩
    · simp at ha
      subst ha
      refine ⟨by simp only; omega, by simp only; omega, by simp only; omega, by simp only; omega, by simp only; omega, fun hf => ?_⟩
      have := h5 hf
      have := hb hf
      unfold evenAt
      simp only
      omega
  · rw [List.pairwise_append]
    refine ⟨h7, by simp, fun a ha c hc => ?_⟩
    simp at hc
    subst hc
    have := (h6 a ha).2.1
    simp only
    omega
theorem info_anc : (Try.prog.info? 34).map (fun i => (i.zero, i.size, i.bytes)) = some (some (.agg #[.int .i64 0, .int .i64 0, .int .i64 0]), 3, 24) := by kernel_rfl
set_option maxHeartbeats 8000000 in
set_option maxRecDepth 100000 in
theorem made_anchors {W : World} {a : Option Addr} {len cap g : Nat} (b : Bool) (w : World) (hd : Die W a len cap g w) :
    Calls Try.prog 13 #[.pointer (some ⟨g, 0, none⟩), .bool b] w fun e w' => (∃ (L : List Anc) (dr tg at' : Int) (p : Option Addr) (c : Nat), e = .returned (.tuple #[.slice p L.length c, .int .i64 dr]) ∧ 0 ≤ dr ∧ dr ≤ 50000 ∧ L.length ≤ 5 ∧ AncSpec b L tg at' ∧ AncRow w' p L.length (ancAt L) ∧ L.length ≤ c ∧ c ≤ 9223372036854775807) ∧ Die W a len cap g w' ∧ Rolls g w w' := by
  obtain ⟨i0, hi0, hz0, hz1, hz2⟩ := info_parts info_anc
  have hgB : g < w.heap.size := hd.lt
  have hWB : W.heap.size ≤ w.heap.size := hd.low.size
  have HD := hide hd
  clear hd
  have hbc := Bool.eq_false_or_eq_true b
  rcases hbc with hbt | hbt
  all_goals
    go_enter Try.func13, Try.ntmps13
    go_wp2_with (first
      | (go_at_call 23; (with_reducible refine (made_pick (W := W) (a := a) (len := len) (cap := cap) (fun x => decide (0 ≤ x ∧ x ≤ 50000)) _ _ ?_ ?_ ?_ _ ?_ ?_).mono ?_); (focus rfl); (focus decide); (focus rfl); (focus exact HD.out); (focus rfl); rintro e w1 ⟨⟨dr, rfl, hdr⟩, hd1, hr1⟩; (have HD := hide hd1); (have HR := hide hr1); (have hdr0 : 0 ≤ dr := by (simp at hdr; omega)); (have hdr1 : dr ≤ 50000 := by (simp at hdr; omega)); clear hd1 hr1 hdr)
      | (go_at_call 18; (with_reducible refine (made_next W a len cap g _ ?_ _ HD.out).mono ?_); (focus omega); rintro e w2 ⟨⟨x, rfl, x0, x1⟩, hd1, hr1⟩; (have HD := hide hd1); (have HR := hide (HR.out.trans hr1)); clear hd1 hr1))
    obtain ⟨k0, rfl⟩ : ∃ k0 : Nat, x = (k0 : Int) := ⟨x.toNat, by omega⟩
    go_loopw [4, 6, 7, 8] (fun v t6 t7 t8 wr => ∃ (L : List Anc) (tg at' : Int) (k : Nat), t6 = .int .i64 tg ∧ t7 = .int .i64 at' ∧ t8 = .int .i64 k ∧ L.length + k ≤ 5 ∧ Hid (AncSpec b L tg at') ∧ Hid (Own wr w.heap.size 34 3 v L.length (ancVals L)) ∧ Hid (Die W a len cap g wr) ∧ Hid (Rolls g w wr)) (fun _ _ _ t8 _ => (intOf t8).toNat)
    case atStart => exact ⟨[], 1000, 1000000000000, k0, rfl, rfl, rfl, by simp; omega, AncSpec.nil b, Own.nil _ _ _ _, HD, HR⟩
    case round =>
      clear HD HR
      obtain ⟨L, tg, at', k, rfl, rfl, rfl, hlk, hspec, HO, HD, HR⟩ := hrel
      have hs1 : 1000 ≤ tg := hspec.out.1
      have hs2 : tg ≤ 101000 := by have := hspec.out.2.1; omega
      have hs3 : 999999999000 ≤ at' := hspec.out.2.2.1
      have hs4 : at' ≤ 1000010100000 := by have := hspec.out.2.2.2.1; omega
      by_cases hk : k = 0
      · subst hk
        obtain ⟨p, c, rfl, hrow, hc1, hc2⟩ := HO.out.ancRow
        have HROW := hide hrow
        clear hrow
        go_wp2
        go_ret2
        exact ⟨⟨L, dr, tg, at', p, c, by first | rfl | simp, hdr0, hdr1, by omega, hspec.out, HROW.out, hc1, hc2⟩, HD.out, HR.out⟩
      · have hk1 : 0 < k := by omega
        have tok := hk1
        go_wp2_with (first
          | (go_at_call 18; (with_reducible refine (made_next W a len cap g 20 ?_ _ HD.out).mono ?_); (focus omega); rintro e w2 ⟨⟨xs, rfl, xs0, xs1⟩, hd1, hr1⟩; (have HD := hide hd1); (have HR := hide (HR.out.trans hr1)); (have HO := hide (HO.out.rolls hr1 hgB)); clear hd1 hr1)
          | (go_at_call 18; (with_reducible refine (made_next W a len cap g 4 ?_ _ HD.out).mono ?_); (focus omega); rintro e w2 ⟨⟨xj, rfl, xj0, xj1⟩, hd1, hr1⟩; (have HD := hide hd1); (have HR := hide (HR.out.trans hr1)); (have HO := hide (HO.out.rolls hr1 hgB)); clear hd1 hr1)
          | (go_at_call 23; (with_reducible refine (made_pick (W := W) (a := a) (len := len) (cap := cap) (fun x => decide (-500 ≤ x ∧ x ≤ 2000000)) _ _ ?_ ?_ ?_ _ ?_ ?_).mono ?_); (focus rfl); (focus decide); (focus rfl); (focus exact HD.out); (focus rfl); rintro e w1 ⟨⟨jj, rfl, hjj⟩, hd1, hr1⟩; (have HD := hide hd1); (have HR := hide (HR.out.trans hr1)); (have HO := hide (HO.out.rolls hr1 hgB)); (have jj0 : -500 ≤ jj := by (simp at hjj; omega)); (have jj1 : jj ≤ 2000000 := by (simp at hjj; omega)); clear hd1 hr1 hjj)
          | (go_at_call 18; (with_reducible refine (made_next W a len cap g 40 ?_ _ HD.out).mono ?_); (focus omega); rintro e w2 ⟨⟨y, rfl, y0, y1⟩, hd1, hr1⟩; (have HD := hide hd1); (have HR := hide (HR.out.trans hr1)); (have HO := hide (HO.out.rolls hr1 hgB)); clear hd1 hr1 tok)
          | (go_at_call 18; (with_reducible refine (made_next W a len cap g 40 ?_ _ HD.out).mono ?_); (focus omega); rintro e w2 ⟨⟨z, rfl, z0, z1⟩, hd1, hr1⟩; (have HD := hide hd1); (have HR := hide (HR.out.trans hr1)); (have HO := hide (HO.out.rolls hr1 hgB)); clear hd1 hr1)
          | (at_builtin
             refine wpList_append_elem _ rfl _ _ 29 rfl w.heap.size 34 i0 _ 3 24 Try.underlying29 hi0 hz0 hz1 hz2 rfl (by decide) _ L.length _ _ HO.out rfl rfl rfl rfl (by omega) (by omega) (HR.out.size) ?_
             intro v1 w1 hown1 hb4 _
             (have HD := hide (HD.out.keepB hb4 hgB hWB)); (have HR := hide (HR.out.below hb4)); (have HO := hide hown1); clear hown1 hb4))
        all_goals
          go_roundw
          case rel =>
            first
              | exact ⟨_, _, _, k - 1, rfl, rfl, by first | go_num | (congr 1; omega), by simp; omega, hide (AncSpec.snoc (s := 1000 * (1 + xs)) (j := jj) (y := y) (z := z) hspec.out (by omega) (by omega) (by omega) jj0 jj1 (fun hf => by rw [hbt] at hf; cases hf) y0 y1 z0 z1 rfl (by omega)), hide (by simpa [ancVals_append, ancVals] using HO.out), HD, HR⟩
              | exact ⟨_, _, _, k - 1, rfl, rfl, by first | go_num | (congr 1; omega), by simp; omega, hide (AncSpec.snoc (s := 1000 * (1 + xs)) (j := 0) (y := y) (z := z) hspec.out (by omega) (by omega) (by omega) (by omega) (by omega) (fun _ => rfl) y0 y1 z0 z1 rfl (by omega)), hide (by simpa [ancVals_append, ancVals] using HO.out), HD, HR⟩
          case measure => simp [intOf]; omega
end Go.Proofs.Ytecoemdhnphmdaa
