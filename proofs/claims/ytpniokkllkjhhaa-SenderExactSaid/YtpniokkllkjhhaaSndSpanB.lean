/- The walk of the dice's Spans. -/
import Derived.Test.YtpniokkllkjhhaaSndSpan
import Derived.Test.YtpniokkllkjhhaaOwnB
namespace Go.Proofs.Ytpniokkllkjhhaa
open Go.RowKit
set_option linter.unusedVariables false
set_option linter.unusedSimpArgs false
def spVals : List (Int × Int) → List Value
  | [] => []
  | a :: L => .int .i64 a.1 :: .int .i64 a.2 :: spVals L
theorem spVals_append : ∀ L M : List (Int × Int), spVals (L ++ M) = spVals L ++ spVals M
  | [], _ => rfl
  | a :: L, M => by simp [spVals, spVals_append L M]
theorem spVals_length : ∀ L : List (Int × Int), (spVals L).length = L.length * 2
  | [] => rfl
  | a :: L => by simp [spVals, spVals_length L]; omega
theorem spVals_get : ∀ (L : List (Int × Int)) (i : Nat) (h : i < L.length), (spVals L)[i * 2]? = some (.int .i64 L[i].1) ∧ (spVals L)[i * 2 + 1]? = some (.int .i64 L[i].2)
  | [], i, h => by simp at h
  | a :: L, 0, h => ⟨rfl, rfl⟩
  | a :: L, i + 1, h => by
    have ih := spVals_get L i (by simpa using h)
    have e0 : (i + 1) * 2 = i * 2 + 1 + 1 := by omega
    rw [e0]
    exact ih
theorem Own.spRow {w : World} {B : Nat} {e : TypeId} {v : Value} {n : Nat} {L : List (Int × Int)} (h : Own w B e 2 v n (spVals L)) : ∃ p cap, v = .slice p L.length cap ∧ SpRow w p L.length L := by
  have h0 := h
  obtain ⟨hl, h⟩ := h
  have hn : L.length = n := by rw [spVals_length] at hl; omega
  subst hn
  rcases h with ⟨rfl, h2⟩ | ⟨g, cap, cur, fr, rfl, h1, h2, h3, h4, h5, h6⟩
  · exact ⟨none, 0, by rw [h2], rfl, .inl h2⟩
  · refine ⟨_, cap, rfl, rfl, .inr ⟨g, 0, rfl, fun i hi => ?_⟩⟩
    have hadd : ∀ j, (⟨g, 0, none⟩ : Addr).add j = ⟨g, 0 + j, none⟩ := fun j => by
      unfold Addr.add; split
      · rename_i h; subst h; rfl
      · simp
    obtain ⟨x0, x1⟩ := spVals_get L i hi
    have c0 := ((h0.cells rfl).2 _ rfl).2 _ _ x0
    have c1 := ((h0.cells rfl).2 _ rfl).2 _ _ x1
    rw [hadd] at c0 c1
    exact ⟨c0, by rw [Nat.add_assoc]; exact c1⟩
theorem Own.rolls {w w' : World} {B g : Nat} {e : TypeId} {size : Nat} {v : Value} {n : Nat} {xs : List Value} (h : Own w B e size v n xs) (hr : Rolls g w w') (hg : g < B) : Own w' B e size v n xs := by
  obtain ⟨hl, h⟩ := h
  rcases h with h | ⟨k, cap, cur, fr, h1, h2, h3, h4⟩
  · exact ⟨hl, .inl h⟩
  · exact ⟨hl, .inr ⟨k, cap, cur, fr, h1, h2, (hr.block k (Array.getElem?_eq_some_iff.1 h3).1 (by omega)).trans h3, h4⟩⟩
theorem Die.keepB' {W : World} {a : Option Addr} {len cap g B : Nat} {w w' : World} (h : Die W a len cap g w) (hb : Below B w w') (hg : g < B) (hB : W.heap.size ≤ B) : Die W a len cap g w' := by
  obtain ⟨i, h1, h2⟩ := h.spot
  exact ⟨h.row, h.big, h.low.trans (hb.mono hB), i, h1, (hb.block g hg).trans h2⟩
theorem Rolls.below {g : Nat} {w0 w w' : World} (h : Rolls g w0 w) (hb : Below w0.heap.size w w') : Rolls g w0 w' :=
  ⟨Nat.le_trans h.size hb.size, fun k hk hg => (hb.block k hk).trans (h.block k hk hg)⟩
def SpOk (L : List (Int × Int)) : Prop := ∀ x ∈ L, 0 ≤ x.1 ∧ x.1 ≤ 30 ∧ -1 ≤ x.2 ∧ x.2 ≤ 40
theorem info_span : (Try.prog.info? 58).map (fun i => (i.zero, i.size, i.bytes)) = some (some (.agg #[.int .i64 0, .int .i64 0]), 2, 16) := by kernel_rfl
set_option maxHeartbeats 8000000 in
set_option maxRecDepth 100000 in
theorem made_spans {W : World} {a : Option Addr} {len cap g : Nat} (w : World) (hd : Die W a len cap g w) :
    Calls Try.prog 22 #[.pointer (some ⟨g, 0, none⟩)] w fun e w' => (∃ (L : List (Int × Int)) (p : Option Addr) (c : Nat), e = .returned (.slice p L.length c) ∧ L.length ≤ 5 ∧ SpOk L ∧ SpRow w' p L.length L) ∧ Die W a len cap g w' ∧ Rolls g w w' := by
  obtain ⟨i0, hi0, hz0, hz1, hz2⟩ := info_parts info_span
  have hgB : g < w.heap.size := hd.lt
  have hWB : W.heap.size ≤ w.heap.size := hd.low.size
  have HD := hide hd
  have HR := hide (Rolls.refl g w)
  clear hd
  go_enter Try.func22, Try.ntmps22
  go_wp2_with (first
    | (go_at_call 11; (with_reducible refine (made_next W a len cap g _ ?_ _ HD.out).mono ?_); (focus omega); rintro e w2 ⟨⟨x, rfl, x0, x1⟩, hd1, hr1⟩; (have HD := hide hd1); (have HR := hide (HR.out.trans hr1)); clear hd1 hr1))
  obtain ⟨k0, rfl⟩ : ∃ k0 : Nat, x = (k0 : Int) := ⟨x.toNat, by omega⟩
  go_loopw [3, 4] (fun v t wr => ∃ (L : List (Int × Int)) (k : Nat), t = .int .i64 k ∧ L.length + k ≤ 5 ∧ Hid (SpOk L) ∧ Hid (Own wr w.heap.size 58 2 v L.length (spVals L)) ∧ Hid (Die W a len cap g wr) ∧ Hid (Rolls g w wr)) (fun _ t _ => (intOf t).toNat)
  case atStart => exact ⟨[], k0, rfl, by simp; omega, hide (fun x h => by cases h), Own.nil _ _ _ _, HD, HR⟩
  case round =>
    clear HD HR
    obtain ⟨L, k, rfl, hlk, hspec, HO, HD, HR⟩ := hrel
    by_cases hk : k = 0
    · subst hk
      obtain ⟨p, c, rfl, hrow⟩ := HO.out.spRow
      have HROW := hide hrow
      clear hrow
      go_wp2
      go_ret
      exact ⟨⟨L, p, c, rfl, by omega, hspec.out, HROW.out⟩, HD.out, HR.out⟩
    · have hk1 : 0 < k := by omega
      go_wp2_with (first
        | (go_at_call 11; (with_reducible refine (made_next W a len cap g 30 ?_ _ HD.out).mono ?_); (focus omega); rintro e w2 ⟨⟨y, rfl, y0, y1⟩, hd1, hr1⟩; (have HD := hide hd1); (have HR := hide (HR.out.trans hr1)); (have HO := hide (HO.out.rolls hr1 hgB)); clear hd1 hr1)
        | (go_at_call 11; (with_reducible refine (made_next W a len cap g 8 ?_ _ HD.out).mono ?_); (focus omega); rintro e w2 ⟨⟨z, rfl, z0, z1⟩, hd1, hr1⟩; (have HD := hide hd1); (have HR := hide (HR.out.trans hr1)); (have HO := hide (HO.out.rolls hr1 hgB)); clear hd1 hr1)
        | (at_builtin
           refine wpList_append_elem _ rfl _ _ 41 rfl w.heap.size 58 i0 _ 2 16 Try.underlying41 hi0 hz0 hz1 hz2 rfl (by decide) _ L.length _ _ HO.out rfl rfl rfl rfl (by omega) (by omega) (HR.out.size) ?_
           intro v1 w1 hown1 hb4 _
           (have HD := hide (HD.out.keepB' hb4 hgB hWB)); (have HR := hide (HR.out.below hb4)); (have HO := hide hown1); clear hown1 hb4))
      go_roundw
      case rel => exact ⟨L ++ [(y, y + z - 1)], k - 1, by first | go_num | (congr 1; omega), by simp; omega, hide (fun x hx => by
          rw [List.mem_append] at hx
          rcases hx with hx | hx
          · exact hspec.out x hx
          · simp at hx
            subst hx
            refine ⟨?_, ?_, ?_, ?_⟩ <;> (simp only; omega)), hide (by simpa [spVals_append, spVals] using HO.out), HD, HR⟩
      case measure => simp [intOf]; omega
end Go.Proofs.Ytpniokkllkjhhaa
