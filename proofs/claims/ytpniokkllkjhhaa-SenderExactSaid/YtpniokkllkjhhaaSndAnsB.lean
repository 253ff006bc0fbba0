/- The walk of the sender's Answer. -/
import Derived.Test.YtpniokkllkjhhaaSndAns
import Derived.Test.YtpniokkllkjhhaaSndSpanB
namespace Go.Proofs.Ytpniokkllkjhhaa
open Go.RowKit
set_option linter.unusedVariables false
set_option linter.unusedSimpArgs false
def natVals (J : List Nat) : List Value := J.map fun j : Nat => Value.int .i64 (j : Int)
/-- Small numbers in memory. -/
def NatRow (w : World) (a : Option Addr) (m : Nat) (J : List Nat) : Prop :=
  m = J.length ∧ (m = 0 ∨ ∃ b off : Nat, a = some ⟨b, off, none⟩ ∧ ∀ i (h : i < J.length), w.cell? ⟨b, off + i, none⟩ = some (.int .i64 (J[i] : Nat)))
theorem NatRow.keep {w w' : World} {a : Option Addr} {m : Nat} {J : List Nat} (h : NatRow w a m J) (hb : Below w.heap.size w w') : NatRow w' a m J := by
  obtain ⟨rfl, h | ⟨b, off, rfl, h⟩⟩ := h
  · exact ⟨rfl, .inl h⟩
  · exact ⟨rfl, .inr ⟨b, off, rfl, fun i hi => by rw [hb.cell (block_lt_of_cell (h i hi))]; exact h i hi⟩⟩
theorem Own.natRow {w : World} {B : Nat} {e : TypeId} {v : Value} {n : Nat} {J : List Nat} (h : Own w B e 1 v n (natVals J)) : ∃ a cap, v = .slice a J.length cap ∧ NatRow w a J.length J := by
  have h0 := h
  obtain ⟨hl, h⟩ := h
  have hn : J.length = n := by simpa [natVals] using hl
  subst hn
  rcases h with ⟨rfl, h2⟩ | ⟨g, cap, cur, fr, rfl, hrest⟩
  · exact ⟨none, 0, by rw [h2], rfl, .inl h2⟩
  · refine ⟨_, cap, rfl, rfl, .inr ⟨g, 0, rfl, fun i hi => ?_⟩⟩
    have := ((h0.cells rfl).2 _ rfl).2 i (.int .i64 (J[i] : Nat)) (by simp [natVals, hi])
    have hadd : (⟨g, 0, none⟩ : Addr).add i = ⟨g, 0 + i, none⟩ := by
      unfold Addr.add; split
      · rename_i h; subst h; rfl
      · simp
    rw [hadd] at this
    exact this
/-- The numbers among the first k from F on that lie in spans. -/
def hitsF (L : List (Int × Int)) (F : Nat) : Nat → List Nat
  | 0 => []
  | k + 1 => hitsF L F k ++ (if hasB L ((F + k : Nat) : Int) = true then [F + k] else [])
theorem hits_length (L : List (Int × Int)) (F : Nat) : ∀ k, (hitsF L F k).length ≤ k
  | 0 => Nat.le_refl _
  | k + 1 => by
    have := hits_length L F k
    unfold hitsF
    rw [List.length_append]
    split <;> simp <;> omega
theorem hits_prefix (L : List (Int × Int)) (F k : Nat) : ∀ d, ∃ t, hitsF L F (k + d) = hitsF L F k ++ t
  | 0 => ⟨[], by simp⟩
  | d + 1 => by
    obtain ⟨t, ht⟩ := hits_prefix L F k d
    exact ⟨t ++ (if hasB L ((F + (k + d) : Nat) : Int) = true then [F + (k + d)] else []), by show hitsF L F (k + d) ++ _ = _; rw [ht, List.append_assoc]; rfl⟩
theorem hits_take (L : List (Int × Int)) (F k n most : Nat) (hk : k ≤ n) (hl : (hitsF L F k).length ≤ most) (he : k = n ∨ (hitsF L F k).length = most) : hitsF L F k = (hitsF L F n).take most := by
  rcases he with rfl | he
  · rw [List.take_of_length_le hl]
  · obtain ⟨t, ht⟩ := hits_prefix L F k (n - k)
    rw [show k + (n - k) = n by omega] at ht
    rw [ht, List.take_append_of_le_length (by omega), List.take_of_length_le (by omega)]
theorem own_lt' {w : World} {B : Nat} {e : TypeId} {size : Nat} {v : Value} {n : Nat} {xs : List Value} (h : Own w B e size v n xs) : ∀ k, v.ownBlock = some k → B ≤ k ∧ k < w.heap.size := by
  obtain ⟨hl, h⟩ := h
  intro k hk
  rcases h with ⟨rfl, h2⟩ | ⟨g, cap, cur, fr, rfl, h2, h3, h4⟩
  · cases hk
  · simp [Value.ownBlock] at hk
    subst hk
    exact ⟨h2, (Array.getElem?_eq_some_iff.1 h3).1⟩
theorem info_int : (Try.prog.info? 3).map (fun i => (i.zero, i.size, i.bytes)) = some (some (.int .i64 0), 1, 8) := by kernel_rfl
set_option maxHeartbeats 8000000 in
set_option maxRecDepth 100000 in
theorem snd_answer (s : Nat) (X : List ByteArray) (p : Option Addr) (n c : Nat) (hs : 1 ≤ s ∧ s ≤ 256) (hX : X.length ≤ 1000000) (hXs : ∀ x ∈ X, x.size ≤ 4064) (L : List (Int × Int)) (pl : Option Addr) (nl cl : Nat) (hL : L.length ≤ 1000) (most : Nat) (hm : most ≤ 256) (w : World) (hr : StrRow w p n (stD s X)) (hrl : SpRow w pl nl L) :
    Calls Try.prog 23 #[.agg #[.int .i64 s, .int .i64 (stF s X : Nat), .slice p n c], .slice pl nl cl, .int .i64 most] w fun e w' => (∃ a cc, e = .returned (.tuple #[.slice a ((hitsF L (stF s X) n).take most).length cc, .int .i64 0]) ∧ NatRow w' a ((hitsF L (stF s X) n).take most).length ((hitsF L (stF s X) n).take most)) ∧ Below w.heap.size w w' := by
  have hl := stD_length s X
  have hnD := hr.1
  have HV := hide (fun (W : World) (hW : StrRow W p n (stD s X)) => snd_valid s (stF s X) (stD s X) p n c (st_ok hs hX hXs) W hW)
  have hfn : stF s X + n = X.length := by unfold stF; omega
  have hn256 : n ≤ 256 := by omega
  have HNX := hide (snd_next s (stF s X) p n c (by unfold stF; omega) (by omega))
  have HIN := hide (snd_in_yes (most : Int) 0 256 ⟨by omega, by omega⟩)
  have HR := hide hr
  have HRL := hide hrl
  obtain ⟨i0, hi0, hz0, hz1, hz2⟩ := info_parts info_int
  generalize stF s X = F at *
  generalize stD s X = D at *
  obtain ⟨nx, hnx⟩ : ∃ nx : Nat, F + n = nx := ⟨_, rfl⟩
  have HNX : Hid (∀ W : World, Calls Try.prog 14 #[.agg #[.int .i64 s, .int .i64 F, .slice p n c]] W fun e w' => e = .returned (.int .i64 (nx : Nat)) ∧ Below W.heap.size W w') := fun W => by
    rw [← hnx, show ((F + n : Nat) : Int) = (F : Int) + (n : Int) by omega]
    exact HNX.out W
  have hnxb : nx ≤ 1000000 := by omega
  have HNXE := hide hnx
  clear hr hrl hl hnD hfn hX hXs hnx
  have G3 := hide (heap_alloc_new w (.cells #[.int .i64 s, .int .i64 F, .slice p n c] 30))
  have HB := hide (below1 (w := w) (.cells #[.int .i64 s, .int .i64 F, .slice p n c] 30))
  go_enter Try.func23, Try.ntmps23
  go_wp2_with (first
    | (go_at_call 13; (with_reducible refine (HV.out _ ?_).mono ?_); (focus exact HR.out.keep HB.out); rintro e w1 ⟨rfl, hb⟩; (have G3 := hide ((hb.block _ (Array.getElem?_eq_some_iff.1 G3.out).1).trans G3.out)); (have HB := hide (HB.out.trans (hb.mono HB.out.size))); (obtain ⟨c0, c1, c2, -, -, -⟩ := tri_cells G3.out); clear hb)
    | (go_at_call 27; (with_reducible refine (HIN.out _).mono ?_); rintro e w2 ⟨rfl, rfl⟩))
  have hgl := (Array.getElem?_eq_some_iff.1 G3.out).1
  have GN := hide (heap_alloc_new w1 (.cells #[.int .i64 F] 3))
  have G3 := hide (pair_alloc G3.out (.cells #[.int .i64 F] 3))
  have HB := hide (HB.out.alloc HB.out.size (.cells #[.int .i64 F] 3))
  generalize w1.alloc (.cells #[.int .i64 F] 3) = W1 at *
  generalize w1.heap.size = g1 at *
  have HGW : Hid (w.heap.size < g1) := hgl
  go_loopw [8, 9] (fun v t9 wr => ∃ k gN : Nat, k ≤ n ∧ t9 = .pointer (some ⟨gN, 0, none⟩) ∧ Hid (w.heap.size < gN) ∧ Hid (wr.heap[gN]? = some (.cells #[.int .i64 (F + k : Nat)] 3 (0, 0))) ∧ Hid (wr.heap[w.heap.size]? = some (.cells #[.int .i64 s, .int .i64 F, .slice p n c] 30 (0, 0))) ∧ Hid (Own wr (w.heap.size + 1) 3 1 v (hitsF L F k).length (natVals (hitsF L F k))) ∧ Hid (∀ b, v.ownBlock = some b → b ≠ gN) ∧ Hid ((hitsF L F k).length ≤ most) ∧ Hid (Below w.heap.size w wr)) (fun _ t9 wr => (nx + 1) - (intOf ((wr.cell? (match t9 with | .pointer (some a) => a | _ => ⟨0, 0, none⟩)).getD (.int .i64 0))).toNat)
  case atStart => exact ⟨0, g1, Nat.zero_le _, rfl, HGW, GN, G3, Own.nil _ _ _ _, hide (fun b hb => by cases hb), Nat.zero_le _, HB⟩
  case round =>
    clear GN G3 HB
    obtain ⟨k, gN, hk, rfl, HGN, GN, G3, HO, HNB, HML, HB⟩ := hrel
    obtain ⟨a, cc, rfl, hnat⟩ := HO.out.natRow
    have HNAT := hide hnat
    obtain ⟨cM, -⟩ := one_cell GN.out
    have MC := hide cM
    have kN := fun q : More => cell_more cM q
    have k0 := fun q : More => cell_more (tri_cells G3.out).1 q
    have k1 := fun q : More => cell_more (tri_cells G3.out).2.1 q
    have k2 := fun q : More => cell_more (tri_cells G3.out).2.2.1 q
    have hstep : hitsF L F (k + 1) = hitsF L F k ++ (if hasB L ((F + k : Nat) : Int) = true then [F + k] else []) := rfl
    have HTK := hide (hits_take L F k n most hk HML.out)
    obtain ⟨J, hJ⟩ : ∃ J, hitsF L F k = J := ⟨_, rfl⟩
    rw [hJ] at HO HML HNAT HNB hstep HTK ⊢
    obtain ⟨qk, hqk⟩ : ∃ qk, F + k = qk := ⟨_, rfl⟩
    rw [hqk] at GN hstep MC
    simp only [hqk] at kN
    obtain ⟨m, hm'⟩ : ∃ m, J.length = m := ⟨_, rfl⟩
    rw [hm'] at HML HTK HO HNAT HNB ⊢
    have hmm : m ≤ most := HML.out
    have HJ := hide hJ
    have HST := hide hstep
    have HQK := hide hqk
    have HMM := hide hm'
    have hqb : qk ≤ 1000000 := by have := HNXE.out; omega
    by_cases hgo : k < n ∧ m < most
    · obtain ⟨hlt, hmo⟩ := hgo
      have hqn : qk < nx := by have := HNXE.out; omega
      have d1 : decide ((qk : Int) < (nx : Int)) = true := by simp; omega
      have d1' : decide (qk < nx) = true := by simp; omega
      have d2 : decide ((m : Int) < (most : Int)) = true := by simp; omega
      have d2' : decide (m < most) = true := by simp; omega
      clear hnat cM hstep hJ hqk hm'
      go_wp2_with fail
      refine wp_region_grown (by kernel_rfl) (by kernel_rfl) ?_
      repeat (go_big_quiet_step ((go_at_call 14; exact more_of (HNX.out _))))
      refine wpQuiet_nil ?_
      intro w2 hb2
      have GN := hide ((hb2.block _ (Array.getElem?_eq_some_iff.1 GN.out).1).trans GN.out)
      have G3 := hide ((hb2.block _ (Array.getElem?_eq_some_iff.1 G3.out).1).trans G3.out)
      have HO := hide (HO.out.keep hb2)
      have HNAT := hide (HNAT.out.keep hb2)
      have HB := hide (HB.out.trans (hb2.mono HB.out.size))
      obtain ⟨cN, fN⟩ := one_cell GN.out
      clear hb2 kN k0 k1 k2
      have qc := ans_containsf L (qk : Int) gN pl nl cl hL w2 GN.out (HRL.out.keep HB.out)
      cases hh : hasB L (qk : Int)
      · rw [hh] at qc
        have QC := hide qc
        have HST2 : Hid (hitsF L F (k + 1) = J) := by show _ = _; rw [HST.out, hh]; simp
        clear qc hh
        go_wp2_with (first
          | (go_at_call 31; (with_reducible refine (QC.out).mono ?_); rintro e w3 ⟨rfl, hb⟩; (have GN := hide ((hb.block _ (Array.getElem?_eq_some_iff.1 GN.out).1).trans GN.out)); (have G3 := hide ((hb.block _ (Array.getElem?_eq_some_iff.1 G3.out).1).trans G3.out)); (have HO := hide (HO.out.keep hb)); (have HB := hide (HB.out.trans (hb.mono HB.out.size))); clear cN fN hb; (obtain ⟨cN, fN⟩ := one_cell GN.out)))
        go_roundw
        case rel => exact ⟨k + 1, _, by omega, rfl, hide (by have := HB.out.size; have := (Array.getElem?_eq_some_iff.1 G3.out).1; omega), by
          rw [show F + (k + 1) = qk + 1 by have := HQK.out; omega]
          exact hide (heap_alloc_new _ _), hide (pair_alloc G3.out _), by rw [HST2.out]; rw [HMM.out]; exact hide (HO.out.alloc _), hide (fun b hb => by have := (own_lt' HO.out b hb).2; omega), by rw [HST2.out]; exact hide (by rw [HMM.out]; exact hmm), hide (HB.out.alloc HB.out.size _)⟩
        case measure =>
          rw [MC.out, (one_cell (heap_alloc_new _ _)).1]
          simp [intOf]
          omega
      · rw [hh] at qc
        have QC := hide qc
        have HST2 : Hid (hitsF L F (k + 1) = J ++ [qk]) := by show _ = _; rw [HST.out, hh]; simp
        have hsz2 := HB.out.size
        clear qc hh
        go_wp2_with (first
          | (go_at_call 31; (with_reducible refine (QC.out).mono ?_); rintro e w3 ⟨rfl, hb⟩; (have GN := hide ((hb.block _ (Array.getElem?_eq_some_iff.1 GN.out).1).trans GN.out)); (have G3 := hide ((hb.block _ (Array.getElem?_eq_some_iff.1 G3.out).1).trans G3.out)); (have HO := hide (HO.out.keep hb)); (have HB := hide (HB.out.trans (hb.mono HB.out.size))); clear cN fN hb; (obtain ⟨cN, fN⟩ := one_cell GN.out))
          | (at_builtin
             refine wpList_append_elem w3 rfl _ _ 22 rfl (w.heap.size + 1) 3 i0 _ 1 8 Try.underlying22 hi0 hz0 hz1 hz2 rfl (by decide) _ m _ [.int .i64 (qk : Int)] HO.out rfl rfl rfl rfl (by omega) (by omega) (Array.getElem?_eq_some_iff.1 G3.out).1 ?_
             intro v4 w4 hown hb hrest
             (have hgn := (Array.getElem?_eq_some_iff.1 GN.out).1)
             (have GN := hide ((hrest gN hgn (fun he => HNB.out gN he.symm rfl)).trans GN.out)); (have G3 := hide ((hb.block _ (Nat.lt_succ_self _)).trans G3.out)); (have HO := hide hown); (have HB := hide (HB.out.trans (hb.mono (Nat.le_succ _))))
             clear cN fN hgn hown hb hrest
             (obtain ⟨cN, fN⟩ := one_cell GN.out)))
        go_roundw
        case rel => exact ⟨k + 1, _, by omega, rfl, hide (by have := HB.out.size; have := (Array.getElem?_eq_some_iff.1 G3.out).1; omega), by
          rw [show F + (k + 1) = qk + 1 by have := HQK.out; omega]
          exact hide (heap_alloc_new _ _), hide (pair_alloc G3.out _), by
          rw [HST2.out, List.length_append, HMM.out]
          exact hide (by simpa [natVals] using HO.out.alloc _), hide (fun b hb => by have := (own_lt' HO.out b hb).2; omega), by rw [HST2.out, List.length_append, HMM.out]; exact hide (by simp; omega), hide (HB.out.alloc HB.out.size _)⟩
        case measure =>
          rw [MC.out, (one_cell (heap_alloc_new _ _)).1]
          simp [intOf]
          omega
    · clear hnat cM hstep hJ hqk hm'
      have hex : (k = n ∧ decide ((qk : Int) < (nx : Int)) = false ∧ decide (qk < nx) = false) ∨ (k < n ∧ m = most ∧ decide ((qk : Int) < (nx : Int)) = true ∧ decide (qk < nx) = true ∧ decide ((m : Int) < (most : Int)) = false ∧ decide (m < most) = false) := by
        have h1 := HNXE.out
        have h2 := HQK.out
        by_cases hkn : k < n
        · exact .inr ⟨hkn, by omega, by simp; omega, by simp; omega, by simp; omega, by simp; omega⟩
        · exact .inl ⟨by omega, by simp; omega, by simp; omega⟩
      have HRES := hide (show J = (hitsF L F n).take most from HTK.out (by rcases hex with h | h; exact .inl h.1; exact .inr h.2.1))
      rcases hex with ⟨h1, d1, d1'⟩ | ⟨h1, h2, d1, d1', d2, d2'⟩
      all_goals
        (try have HH1 := hide h1)
        (try have HH2 := hide h2)
        (try clear h1)
        (try clear h2)
        go_wp2_with fail
        refine wp_region_grown (by kernel_rfl) (by kernel_rfl) ?_
        repeat (go_big_quiet_step ((go_at_call 14; exact more_of (HNX.out _))))
        refine wpQuiet_nil ?_
        intro w2 hb2
        have GN := hide ((hb2.block _ (Array.getElem?_eq_some_iff.1 GN.out).1).trans GN.out)
        have G3 := hide ((hb2.block _ (Array.getElem?_eq_some_iff.1 G3.out).1).trans G3.out)
        have HO := hide (HO.out.keep hb2)
        have HNAT := hide (HNAT.out.keep hb2)
        have HB := hide (HB.out.trans (hb2.mono HB.out.size))
        obtain ⟨cN, fN⟩ := one_cell GN.out
        clear hb2 kN k0 k1 k2
        go_wp2
        go_ret2
        exact ⟨⟨a, cc, by rw [← HRES.out, HMM.out]; first | rfl | simp, by rw [← HRES.out, HMM.out]; exact HNAT.out⟩, HB.out⟩
end Go.Proofs.Ytpniokkllkjhhaa
