/- The walk of the statements' examples. -/
import Derived.Test.YtpniokkllkjhhaaSndWalkC
import Derived.Deep.RegionHeld3
namespace Go.Proofs.Ytpniokkllkjhhaa
open Go.RowKit
set_option linter.unusedVariables false
set_option linter.unusedSimpArgs false
def exX : List ByteArray := [⟨#[97]⟩, ⟨#[98]⟩, ⟨#[99]⟩]
theorem exX_small (k : Nat) : ∀ x ∈ exX.take k, x.size ≤ 4064 := fun x h => by
  have := List.mem_of_mem_take h
  unfold exX at this
  simp at this
  rcases this with rfl | rfl | rfl <;> decide
theorem StrRow.of_set {w : World} {p : Option Addr} {n g : Nat} {D : List ByteArray} {x y z : Value} (h : StrRow w p n D) (hg : ∀ b off, p = some ⟨b, off, none⟩ → b ≠ g) : StrRow (((w.setCell ⟨g, 0, none⟩ x).setCell ⟨g, 1, none⟩ y).setCell ⟨g, 2, none⟩ z) p n D := by
  obtain ⟨rfl, h | ⟨b, off, rfl, h⟩⟩ := h
  · exact ⟨rfl, .inl h⟩
  · have hne := hg b off rfl
    exact strRow_of rfl h (by rw [heap_set hne, heap_set hne, heap_set hne])
theorem ex_push (k : Nat) (x : ByteArray) (hx : exX[k]? = some x) (hk : k < 3) (W : World) (p : Option Addr) (n c : Nat) (hc : n ≤ c ∧ c ≤ 9223372036854775807) (hr : StrRow W p n (stD 2 (exX.take k))) :
    Calls Try.prog 12 #[.agg #[.int .i64 2, .int .i64 (stF 2 (exX.take k) : Nat), .slice p n c], .string x] W fun e w' => (∃ b' o' n' c', e = .returned (.tuple #[.agg #[.int .i64 2, .int .i64 (stF 2 (exX.take (k + 1)) : Nat), .slice (some ⟨b', o', none⟩) n' c'], .int .i64 (k : Nat), .int .i64 0]) ∧ W.heap.size ≤ b' ∧ StrRow w' (some ⟨b', o', none⟩) n' (stD 2 (exX.take (k + 1))) ∧ n' ≤ c' ∧ c' ≤ 9223372036854775807) ∧ Below W.heap.size W w' := by
  have hl : exX.length = 3 := rfl
  have ht : (exX.take k).length = k := by rw [List.length_take]; omega
  have hxs : x.size ≤ 4064 := exX_small 3 x (by rw [List.take_of_length_le (by omega)]; exact List.mem_of_getElem? hx)
  have q := snd_pushX 2 (exX.take k) x p n c (by omega) (by omega) (exX_small k) hxs hc W hr
  have e : exX.take k ++ [x] = exX.take (k + 1) := by
    rw [List.take_add_one, hx]; rfl
  rw [e, ht] at q
  exact q
set_option maxHeartbeats 4000000 in
set_option maxRecDepth 100000 in
theorem snd_sane (w : World) : Calls Try.prog 7 #[] w fun e w' => e = .returned (.bool true) ∧ Below w.heap.size w w' := by
  have qn : Hid (∀ w, Calls Try.prog 10 #[.int .i64 2] w fun e w' => e = .returned (.tuple #[.agg #[.int .i64 2, .int .i64 0, .slice none 0 0], .int .i64 0]) ∧ Below w.heap.size w w') := fun w => snd_new 2 (by omega) w
  go_enter Try.func7, Try.ntmps7
  go_wp2_with (first
    | (go_at_call 10; (with_reducible refine (qn.out _).mono ?_); rintro e w1 ⟨rfl, hb⟩; (have HB := hide hb); clear hb))
  have G := hide (heap_alloc_new w1 (.cells #[.int .i64 2, .int .i64 0, .slice none 0 0] 30))
  have HB2 := hide (HB.out.alloc HB.out.size (.cells #[.int .i64 2, .int .i64 0, .slice none 0 0] 30))
  have hgw : w.heap.size ≤ w1.heap.size := HB.out.size
  generalize w1.alloc (.cells #[.int .i64 2, .int .i64 0, .slice none 0 0] 30) = W at *
  generalize w1.heap.size = g at *
  go_loopw [2, 3] (fun e i wr => ∃ k : Nat, k ≤ 3 ∧ i = .int .i64 k ∧ e = .int .i64 0 ∧ Hid (Below w.heap.size w wr) ∧ ∃ p n c, Hid (wr.heap[g]? = some (.cells #[.int .i64 2, .int .i64 (stF 2 (exX.take k) : Nat), .slice p n c] 30 (0, 0))) ∧ Hid (StrRow wr p n (stD 2 (exX.take k))) ∧ n ≤ c ∧ c ≤ 9223372036854775807) (fun _ i _ => 3 - (intOf i).toNat)
  case atStart => exact ⟨0, by omega, rfl, rfl, HB2, none, 0, 0, G, ⟨rfl, .inl rfl⟩, by omega, by omega⟩
  case round =>
    clear G HB2 HB
    obtain ⟨k, hk, rfl, rfl, HB, p, n, c, G, HST, hc1, hc2⟩ := hrel
    by_cases hlt : k < 3
    · have q0 := fun (x : ByteArray) (hx : exX[k]? = some x) (W : World) (hr : StrRow W p n (stD 2 (exX.take k))) => ex_push k x hx hlt W p n c ⟨hc1, hc2⟩ hr
      obtain ⟨F1, hF1⟩ : ∃ F1, stF 2 (exX.take (k + 1)) = F1 := ⟨_, rfl⟩
      obtain ⟨D1, hD1⟩ : ∃ D1, stD 2 (exX.take (k + 1)) = D1 := ⟨_, rfl⟩
      rw [hF1, hD1] at q0
      generalize stF 2 (exX.take k) = F0 at *
      generalize stD 2 (exX.take k) = D0 at *
      have HF1 := hide hF1
      have HD1 := hide hD1
      clear hF1 hD1
      have GG := G
      obtain ⟨c0, c1, c2, f0, f1, f2⟩ := tri_cells G.out
      have l0 := fun o => (tri_cells (pair_alloc G.out o)).1
      have l1 := fun o => (tri_cells (pair_alloc G.out o)).2.1
      have l2 := fun o => (tri_cells (pair_alloc G.out o)).2.2.1
      have hk3 : k = 0 ∨ k = 1 ∨ k = 2 := by omega
      rcases hk3 with rfl | rfl | rfl
      · have q := fun (W : World) (hr : StrRow W p n D0) => q0 ⟨#[97]⟩ rfl W hr
        have Q := hide q
        clear q q0
        go_wp2_with fail
        go_region_with ((first
          | (go_at_call 12; (with_reducible refine (Q.out _ ?_).mono ?_); (focus (first | exact HST.out.keep (below1 _).drew | exact HST.out.keep (below1 _) | exact HST.out.keep ((Below.refl _ _).drew.alloc (Nat.le_refl _) _))); rintro e w2 ⟨⟨b', o', n', c', rfl, hbb, hst, h1, h2⟩, hb⟩;
              (have HS2 := hide hst); (have G := hide ((hb.block _ (Array.getElem?_eq_some_iff.1 (pair_alloc G.out _)).1).trans (pair_alloc G.out _))); (have HGL := hide (Array.getElem?_eq_some_iff.1 GG.out).1); (have HB := hide (((HB.out.alloc HB.out.size _).drew).trans (hb.mono (by have := HB.out.size; simp; omega))));
              (obtain ⟨m0, m1, m2, m3, m4, m5⟩ := tri_cells G.out); clear hb hst)))
        all_goals
          go_wp2
          go_roundw
          case rel => exact ⟨0+1, by omega, by go_num, rfl, hide (((HB.out.setCell hgw _).setCell hgw _).setCell hgw _), _, n', c', by rw [HF1.out]; exact tri_set G.out _ _ _, by
            rw [HD1.out]
            exact HS2.out.of_set (fun b off hp => by (injection hp with hp; injection hp with hp1 hp2; subst hp1; have := HGL.out; simp at hbb; omega)), h1, h2⟩
          case measure => simp [intOf]
      · have q := fun (W : World) (hr : StrRow W p n D0) => q0 ⟨#[98]⟩ rfl W hr
        have Q := hide q
        clear q q0
        go_wp2_with fail
        go_region_with ((first
          | (go_at_call 12; (with_reducible refine (Q.out _ ?_).mono ?_); (focus (first | exact HST.out.keep (below1 _).drew | exact HST.out.keep (below1 _) | exact HST.out.keep ((Below.refl _ _).drew.alloc (Nat.le_refl _) _))); rintro e w2 ⟨⟨b', o', n', c', rfl, hbb, hst, h1, h2⟩, hb⟩;
              (have HS2 := hide hst); (have G := hide ((hb.block _ (Array.getElem?_eq_some_iff.1 (pair_alloc G.out _)).1).trans (pair_alloc G.out _))); (have HGL := hide (Array.getElem?_eq_some_iff.1 GG.out).1); (have HB := hide (((HB.out.alloc HB.out.size _).drew).trans (hb.mono (by have := HB.out.size; simp; omega))));
              (obtain ⟨m0, m1, m2, m3, m4, m5⟩ := tri_cells G.out); clear hb hst)))
        all_goals
          go_wp2
          go_roundw
          case rel => exact ⟨1+1, by omega, by go_num, rfl, hide (((HB.out.setCell hgw _).setCell hgw _).setCell hgw _), _, n', c', by rw [HF1.out]; exact tri_set G.out _ _ _, by
            rw [HD1.out]
            exact HS2.out.of_set (fun b off hp => by (injection hp with hp; injection hp with hp1 hp2; subst hp1; have := HGL.out; simp at hbb; omega)), h1, h2⟩
          case measure => simp [intOf]
      · have q := fun (W : World) (hr : StrRow W p n D0) => q0 ⟨#[99]⟩ rfl W hr
        have Q := hide q
        clear q q0
        go_wp2_with fail
        go_region_with ((first
          | (go_at_call 12; (with_reducible refine (Q.out _ ?_).mono ?_); (focus (first | exact HST.out.keep (below1 _).drew | exact HST.out.keep (below1 _) | exact HST.out.keep ((Below.refl _ _).drew.alloc (Nat.le_refl _) _))); rintro e w2 ⟨⟨b', o', n', c', rfl, hbb, hst, h1, h2⟩, hb⟩;
              (have HS2 := hide hst); (have G := hide ((hb.block _ (Array.getElem?_eq_some_iff.1 (pair_alloc G.out _)).1).trans (pair_alloc G.out _))); (have HGL := hide (Array.getElem?_eq_some_iff.1 GG.out).1); (have HB := hide (((HB.out.alloc HB.out.size _).drew).trans (hb.mono (by have := HB.out.size; simp; omega))));
              (obtain ⟨m0, m1, m2, m3, m4, m5⟩ := tri_cells G.out); clear hb hst)))
        all_goals
          go_wp2
          go_roundw
          case rel => exact ⟨2+1, by omega, by go_num, rfl, hide (((HB.out.setCell hgw _).setCell hgw _).setCell hgw _), _, n', c', by rw [HF1.out]; exact tri_set G.out _ _ _, by
            rw [HD1.out]
            exact HS2.out.of_set (fun b off hp => by (injection hp with hp; injection hp with hp1 hp2; subst hp1; have := HGL.out; simp at hbb; omega)), h1, h2⟩
          case measure => simp [intOf]
    · have hk3 : k = 3 := by omega
      subst hk3
      have hn2 : n = 2 := HST.out.1
      subst hn2
      have hF : stF 2 (exX.take 3) = 1 := by decide
      have qno : ∀ W, StrRow W p 2 (stD 2 (exX.take 3)) → Calls Try.prog 15 #[.agg #[.int .i64 2, .int .i64 1, .slice p 2 c], .int .i64 0] W fun e w' => e = .returned (.tuple #[.string ⟨#[]⟩, .bool false]) ∧ Below W.heap.size W w' := fun W hW =>
        snd_getX_no 2 (exX.take 3) 0 p 2 c (by omega) (by decide) (exX_small 3) (.inl (by decide)) W hW
      have qyes : ∀ W, StrRow W p 2 (stD 2 (exX.take 3)) → Calls Try.prog 15 #[.agg #[.int .i64 2, .int .i64 1, .slice p 2 c], .int .i64 1] W fun e w' => e = .returned (.tuple #[.string ⟨#[98]⟩, .bool true]) ∧ Below W.heap.size W w' := fun W hW =>
        snd_getX_yes 2 (exX.take 3) 1 p 2 c (by omega) (by decide) (exX_small 3) ⟨hc1, hc2⟩ (by decide) (by decide) W hW
      have qnx : ∀ W, Calls Try.prog 14 #[.agg #[.int .i64 2, .int .i64 1, .slice p 2 c]] W fun e w' => e = .returned (.int .i64 3) ∧ Below W.heap.size W w' := fun W => snd_next 2 1 p 2 c (by omega) (by omega) W
      rw [hF] at G
      have G : Hid (wr.heap[g]? = some (.cells #[.int .i64 2, .int .i64 1, .slice p 2 c] 30 (0, 0))) := G
      have QN := hide qno
      have QY := hide qyes
      have QX := hide qnx
      clear qno qyes qnx hF
      generalize stD 2 (exX.take 3) = D3 at *
      obtain ⟨c0, c1, c2, f0, f1, f2⟩ := tri_cells G.out
      go_wp2_with (first
        | (go_at_call 15; (with_reducible refine (QN.out _ ?_).mono ?_); (focus exact HST.out); rintro e w2 ⟨rfl, hb⟩; (have HST := hide (HST.out.keep hb)); (have G := hide ((hb.block _ (Array.getElem?_eq_some_iff.1 G.out).1).trans G.out)); (have HB := hide (HB.out.trans (hb.mono HB.out.size))); clear c0 c1 c2 f0 f1 f2 hb; (obtain ⟨c0, c1, c2, f0, f1, f2⟩ := tri_cells G.out))
        | (go_at_call 15; (with_reducible refine (QY.out _ ?_).mono ?_); (focus exact HST.out); rintro e w2 ⟨rfl, hb⟩; (have HST := hide (HST.out.keep hb)); (have G := hide ((hb.block _ (Array.getElem?_eq_some_iff.1 G.out).1).trans G.out)); (have HB := hide (HB.out.trans (hb.mono HB.out.size))); clear c0 c1 c2 f0 f1 f2 hb; (obtain ⟨c0, c1, c2, f0, f1, f2⟩ := tri_cells G.out))
        | (go_at_call 14; (with_reducible refine (QX.out _).mono ?_); rintro e w2 ⟨rfl, hb⟩; (have G := hide ((hb.block _ (Array.getElem?_eq_some_iff.1 G.out).1).trans G.out)); (have HB := hide (HB.out.trans (hb.mono HB.out.size))); clear c0 c1 c2 f0 f1 f2 hb; (obtain ⟨c0, c1, c2, f0, f1, f2⟩ := tri_cells G.out)))
      go_ret
      exact ⟨rfl, HB.out⟩
end Go.Proofs.Ytpniokkllkjhhaa
