/- The walks of the sender and its reference: Answer of any sender. (written by gen_sndans.py) -/
import Derived.Test.YtpniokkllkjhhaaSndAnyD
import Derived.Test.YtpniokkllkjhhaaSndAnsB
namespace Go.Proofs.Ytpniokkllkjhhaa
open Go.RowKit
set_option linter.unusedVariables false
set_option linter.unusedSimpArgs false
set_option maxHeartbeats 8000000 in
set_option maxRecDepth 100000 in
theorem snd_ans_ok (s F : Nat) (D : List ByteArray) (p : Option Addr) (n c : Nat) (hok : SOk s F D) (L : List (Int × Int)) (pl : Option Addr) (nl cl : Nat) (hL : L.length ≤ 1000) (most : Nat) (hm : most ≤ 256) (w : World) (hr : StrRow w p n D) (hrl : SpRow w pl nl L) :
    Calls Try.prog 23 #[.agg #[.int .i64 s, .int .i64 F, .slice p n c], .slice pl nl cl, .int .i64 most] w fun e w' => (∃ a cc, e = .returned (.tuple #[.slice a ((hitsF L (F) n).take most).length cc, .int .i64 0]) ∧ NatRow w' a ((hitsF L (F) n).take most).length ((hitsF L (F) n).take most)) ∧ Below w.heap.size w w' := by
  have hnD := hr.1
  have HV := hide (fun (W : World) (hW : StrRow W p n D) => snd_valid s F D p n c hok W hW)
  have hFb : F ≤ 1073741825 := by have := hok.2.2.2.1; omega
  have hFn : F + n ≤ 1073741825 := by have := hok.2.2.2.1; omega
  have hn256 : n ≤ 256 := by have := hok.2.2.1; have := hok.2.1; omega
  have HNX := hide (snd_next s F p n c ⟨by omega, by omega⟩ (by omega))
  have HIN := hide (snd_in_yes (most : Int) 0 256 ⟨by omega, by omega⟩)
  have HR := hide hr
  have HRL := hide hrl
  obtain ⟨i0, hi0, hz0, hz1, hz2⟩ := info_parts info_int
  obtain ⟨nx, hnx⟩ : ∃ nx : Nat, F + n = nx := ⟨_, rfl⟩
  have HNX : Hid (∀ W : World, Calls Try.prog 14 #[.agg #[.int .i64 s, .int .i64 F, .slice p n c]] W fun e w' => e = .returned (.int .i64 (nx : Nat)) ∧ Below W.heap.size W w') := fun W => by
    rw [← hnx, show ((F + n : Nat) : Int) = (F : Int) + (n : Int) by omega]
    exact HNX.out W
  have hnxb : nx ≤ 1073741825 := by omega
  have HNXE := hide hnx
  clear hr hrl hnD hok hnx hFn
  have G3 := hide (heap_alloc_new w (.cells #[.int .i64 s, .int .i64 F, .slice p n c] 30))
  have HB := hide (below1 (w := w) (.cells #[.int .i64 s, .int .i64 F, .slice p n c] 30))
  go_enter Try.func23, Try.ntmps23
  go_wp2_with (first
    | (go_at_call 13; (with_reducible refine (HV.out _ ?_).mono ?_); (focus exact HR.out.keep HB.out); rintro e w1 ⟨rfl, hb⟩; (have G3 := hide ((hb.block _ (Array.getElem?_eq_some_iff.1 G3.out).1).trans G3.out)); (have HB := hide (HB.out.trans (hb.mono HB.out.size))); (obtain ⟨c0, c1, c2, -, -, -⟩ := tri_cells G3.out); clear hb)
    | (go_at_call 27; (with_reducible refine (HIN.out _).mono ?_); rintro e w2 ⟨rfl, rfl⟩))
  have hgl := (Array.getElem?_eq_some_iff.1 G3.out).1
  have GN := hide (heap_alloc_new w1 (.cells #[.int .i64 F] 3))
  have G3 := hide (pair_alloc G3.out (.cells #[.int .i64 F] 3))
  have HB := hide (HB.out.alloc HB.out.size (.cells #[.int .i64 F] 3))
  generalize w1.alloc (.cells #[.int .i64 F] 3) = W1 at *
  generalize w1.heap.size = g1 at *
  have HGW : Hid (w.heap.size < g1) := hgl
  go_loopw [8, 9] (fun v t9 wr => ∃ k gN : Nat, k ≤ n ∧ t9 = .pointer (some ⟨gN, 0, none⟩) ∧ Hid (w.heap.size < gN) ∧ Hid (wr.heap[gN]? = some (.cells #[.int .i64 (F + k : Nat)] 3 (0, 0))) ∧ Hid (wr.heap[w.heap.size]? = some (.cells #[.int .i64 s, .int .i64 F, .slice p n c] 30 (0, 0))) ∧ Hid (Own wr (w.heap.size + 1) 3 1 v (hitsF L F k).length (natVals (hitsF L F k))) ∧ Hid (∀ b, v.ownBlock = some b → b ≠ gN) ∧ Hid ((hitsF L F k).length ≤ most) ∧ Hid (Below w.heap.size w wr)) (fun _ t9 wr => (nx + 1) - (intOf ((wr.cell? (match t9 with | .pointer (some a) => a | _ => ⟨0, 0, none⟩)).getD (.int .i64 0))).toNat)
  case atStart => exact ⟨0, g1, Nat.zero_le _, rfl, HGW, GN, G3, Own.nil _ _ _ _, hide (fun b hb => by cases hb), Nat.zero_le _, HB⟩
  case round =>
    clear GN G3 HB
    obtain ⟨k, gN, hk, rfl, HGN, GN, G3, HO, HNB, HML, HB⟩ := hrel
    obtain ⟨a, cc, rfl, hnat⟩ := HO.out.natRow
    have HNAT := hide hnat
    obtain ⟨cM, -⟩ := one_cell GN.out
    have MC := hide cM
    have kN := fun q : More => cell_more cM q
    have k0 := fun q : More => cell_more (tri_cells G3.out).1 q
    have k1 := fun q : More => cell_more (tri_cells G3.out).2.1 q
    have k2 := fun q : More => cell_more (tri_cells G3.out).2.2.1 q
    have hstep : hitsF L F (k + 1) = hitsF L F k ++ (if hasB L ((F + k : Nat) : Int) = true then [F + k] else []) := rfl
    have HTK := hide (hits_take L F k n most hk HML.out)
    obtain ⟨J, hJ⟩ : ∃ J, hitsF L F k = J := ⟨_, rfl⟩
    rw [hJ] at HO HML HNAT HNB hstep HTK ⊢
    obtain ⟨qk, hqk⟩ : ∃ qk, F + k = qk := ⟨_, rfl⟩
    rw [hqk] at GN hstep MC
    simp only [hqk] at kN
    obtain ⟨m, hm'⟩ : ∃ m, J.length = m := ⟨_, rfl⟩
    rw [hm'] at HML HTK HO HNAT HNB ⊢
    have hmm : m ≤ most := HML.out
    have HJ := hide hJ
    have HST := hide hstep
    have HQK := hide hqk
    have HMM := hide hm'
    have hqb : qk ≤ 1073741825 := by have := HNXE.out; omega
    by_cases hgo : k < n ∧ m < most
    · obtain ⟨hlt, hmo⟩ := hgo
      have hqn : qk < nx := by have := HNXE.out; omega
      have d1 : decide ((qk : Int) < (nx : Int)) = true := by simp; omega
      have d1' : decide (qk < nx) = true := by simp; omega
      have d2 : decide ((m : Int) < (most : Int)) = true := by simp; omega
      have d2' : decide (m < most) = true := by simp; omega
      clear hnat cM hstep hJ hqk hm'
      go_wp2_with fail
      refine wp_region_grown (by kernel_rfl) (by kernel_rfl) ?_
      repeat (go_big_quiet_step ((go_at_call 14; exact more_of (HNX.out _))))
      refine wpQuiet_nil ?_
      intro w2 hb2
      have GN := hide ((hb2.block _ (Array.getElem?_eq_some_iff.1 GN.out).1).trans GN.out)
      have G3 := hide ((hb2.block _ (Array.getElem?_eq_some_iff.1 G3.out).1).trans G3.out)
      have HO := hide (HO.out.keep hb2)
      have HNAT := hide (HNAT.out.keep hb2)
      have HB := hide (HB.out.trans (hb2.mono HB.out.size))
      obtain ⟨cN, fN⟩ := one_cell GN.out
      clear hb2 kN k0 k1 k2
      have qc := ans_containsf L (qk : Int) gN pl nl cl hL w2 GN.out (HRL.out.keep HB.out)
      cases hh : hasB L (qk : Int)
      · rw [hh] at qc
        have QC := hide qc
        have HST2 : Hid (hitsF L F (k + 1) = J) := by show _ = _; rw [HST.out, hh]; simp
        clear qc hh
        go_wp2_with (first
          | (go_at_call 31; (with_reducible refine (QC.out).mono ?_); rintro e w3 ⟨rfl, hb⟩; (have GN := hide ((hb.block _ (Array.getElem?_eq_some_iff.1 GN.out).1).trans GN.out)); (have G3 := hide ((hb.block _ (Array.getElem?_eq_some_iff.1 G3.out).1).trans G3.out)); (have HO := hide (HO.out.keep hb)); (have HB := hide (HB.out.trans (hb.mono HB.out.size))); clear cN fN hb; (obtain ⟨cN, fN⟩ := one_cell GN.out)))
        go_roundw
        case rel => exact ⟨k + 1, _, by omega, rfl, hide (by have := HB.out.size; have := (Array.getElem?_eq_some_iff.1 G3.out).1; omega), by
          rw [show F + (k + 1) = qk + 1 by have := HQK.out; omega]
          exact hide (heap_alloc_new _ _), hide (pair_alloc G3.out _), by rw [HST2.out]; rw [HMM.out]; exact hide (HO.out.alloc _), hide (fun b hb => by have := (own_lt' HO.out b hb).2; omega), by rw [HST2.out]; exact hide (by rw [HMM.out]; exact hmm), hide (HB.out.alloc HB.out.size _)⟩
        case measure =>
          rw [MC.out, (one_cell (heap_alloc_new _ _)).1]
          simp [intOf]
          omega
      · rw [hh] at qc
        have QC := hide qc
        have HST2 : Hid (hitsF L F (k + 1) = J ++ [qk]) := by show _ = _; rw [HST.out, hh]; simp
        have hsz2 := HB.out.size
        clear qc hh
        go_wp2_with (first
          | (go_at_call 31; (with_reducible refine (QC.out).mono ?_); rintro e w3 ⟨rfl, hb⟩; (have GN := hide ((hb.block _ (Array.getElem?_eq_some_iff.1 GN.out).1).trans GN.out)); (have G3 := hide ((hb.block _ (Array.getElem?_eq_some_iff.1 G3.out).1).trans G3.out)); (have HO := hide (HO.out.keep hb)); (have HB := hide (HB.out.trans (hb.mono HB.out.size))); clear cN fN hb; (obtain ⟨cN, fN⟩ := one_cell GN.out))
          | (at_builtin
             refine wpList_append_elem w3 rfl _ _ 22 rfl (w.heap.size + 1) 3 i0 _ 1 8 Try.underlying22 hi0 hz0 hz1 hz2 rfl (by decide) _ m _ [.int .i64 (qk : Int)] HO.out rfl rfl rfl rfl (by omega) (by omega) (Array.getElem?_eq_some_iff.1 G3.out).1 ?_
             intro v4 w4 hown hb hrest
             (have hgn := (Array.getElem?_eq_some_iff.1 GN.out).1)
             (have GN := hide ((hrest gN hgn (fun he => HNB.out gN he.symm rfl)).trans GN.out)); (have G3 := hide ((hb.block _ (Nat.lt_succ_self _)).trans G3.out)); (have HO := hide hown); (have HB := hide (HB.out.trans (hb.mono (Nat.le_succ _))))
             clear cN fN hgn hown hb hrest
             (obtain ⟨cN, fN⟩ := one_cell GN.out)))
        go_roundw
        case rel => exact ⟨k + 1, _, by omega, rfl, hide (by have := HB.out.size; have := (Array.getElem?_eq_some_iff.1 G3.out).1; omega), by
          rw [show F + (k + 1) = qk + 1 by have := HQK.out; omega]
          exact hide (heap_alloc_new _ _), hide (pair_alloc G3.out _), by
          rw [HST2.out, List.length_append, HMM.out]
          exact hide (by simpa [natVals] using HO.out.alloc _), hide (fun b hb => by have := (own_lt' HO.out b hb).2; omega), by rw [HST2.out, List.length_append, HMM.out]; exact hide (by simp; omega), hide (HB.out.alloc HB.out.size _)⟩
        case measure =>
          rw [MC.out, (one_cell (heap_alloc_new _ _)).1]
          simp [intOf]
          omega
    · clear hnat cM hstep hJ hqk hm'
      have hex : (k = n ∧ decide ((qk : Int) < (nx : Int)) = false ∧ decide (qk < nx) = false) ∨ (k < n ∧ m = most ∧ decide ((qk : Int) < (nx : Int)) = true ∧ decide (qk < nx) = true ∧ decide ((m : Int) < (most : Int)) = false ∧ decide (m < most) = false) := by
        have h1 := HNXE.out
        have h2 := HQK.out
        by_cases hkn : k < n
        · exact .inr ⟨hkn, by omega, by simp; omega, by simp; omega, by simp; omega, by simp; omega⟩
        · exact .inl ⟨by omega, by simp; omega, by simp; omega⟩
      have HRES := hide (show J = (hitsF L F n).take most from HTK.out (by rcases hex with h | h; exact .inl h.1; exact .inr h.2.1))
      rcases hex with ⟨h1, d1, d1'⟩ | ⟨h1, h2, d1, d1', d2, d2'⟩
      all_goals
        (try have HH1 := hide h1)
        (try have HH2 := hide h2)
        (try clear h1)
        (try clear h2)
        go_wp2_with fail
        refine wp_region_grown (by kernel_rfl) (by kernel_rfl) ?_
        repeat (go_big_quiet_step ((go_at_call 14; exact more_of (HNX.out _))))
        refine wpQuiet_nil ?_
        intro w2 hb2
        have GN := hide ((hb2.block _ (Array.getElem?_eq_some_iff.1 GN.out).1).trans GN.out)
        have G3 := hide ((hb2.block _ (Array.getElem?_eq_some_iff.1 G3.out).1).trans G3.out)
        have HO := hide (HO.out.keep hb2)
        have HNAT := hide (HNAT.out.keep hb2)
        have HB := hide (HB.out.trans (hb2.mono HB.out.size))
        obtain ⟨cN, fN⟩ := one_cell GN.out
        clear hb2 kN k0 k1 k2
        go_wp2
        go_ret2
        exact ⟨⟨a, cc, by rw [← HRES.out, HMM.out]; first | rfl | simp, by rw [← HRES.out, HMM.out]; exact HNAT.out⟩, HB.out⟩
set_option maxHeartbeats 8000000 in
set_option maxRecDepth 100000 in
theorem sref_ans_ok (s F : Nat) (D : List ByteArray) (p : Option Addr) (n c : Nat) (hok : SOk s F D) (L : List (Int × Int)) (pl : Option Addr) (nl cl : Nat) (hL : L.length ≤ 1000) (most : Nat) (hm : most ≤ 256) (w : World) (hr : StrRow w p n D) (hrl : SpRow w pl nl L) :
    Calls Try.prog 24 #[.agg #[.int .i64 s, .int .i64 F, .slice p n c], .slice pl nl cl, .int .i64 most] w fun e w' => (∃ a cc, e = .returned (.tuple #[.slice a ((hitsF L F n).take most).length cc, .int .i64 0]) ∧ NatRow w' a ((hitsF L F n).take most).length ((hitsF L F n).take most)) ∧ Below w.heap.size w w' := by
  have hnD := hr.1
  have HV := hide (fun (W : World) (hW : StrRow W p n D) => sref_valid s F D p n c hok W hW)
  have hFb : F ≤ 1073741825 := by have := hok.2.2.2.1; omega
  have hFn : F + n ≤ 1073741825 := by have := hok.2.2.2.1; omega
  have hn256 : n ≤ 256 := by have := hok.2.2.1; have := hok.2.1; omega
  have HNX := hide (sref_next s F p n c ⟨by omega, by omega⟩ (by omega))
  have HIN := hide (utc_in_yes (most : Int) 0 256 ⟨by omega, by omega⟩)
  have HR := hide hr
  have HRL := hide hrl.2
  have hnl := hrl.1
  obtain ⟨i0, hi0, hz0, hz1, hz2⟩ := info_parts info_int
  obtain ⟨nx, hnx⟩ : ∃ nx : Nat, F + n = nx := ⟨_, rfl⟩
  have HNX : Hid (∀ W : World, Calls Try.prog 20 #[.agg #[.int .i64 s, .int .i64 F, .slice p n c]] W fun e w' => e = .returned (.int .i64 (nx : Nat)) ∧ Below W.heap.size W w') := fun W => by
    rw [← hnx, show ((F + n : Nat) : Int) = (F : Int) + (n : Int) by omega]
    exact HNX.out W
  have hnxb : nx ≤ 1073741825 := by omega
  have HNXE := hide hnx
  clear hr hrl hnD hok hnx hFn
  subst hnl
  have G3 := hide (heap_alloc_new w (.cells #[.int .i64 s, .int .i64 F, .slice p n c] 30))
  have HB := hide (below1 (w := w) (.cells #[.int .i64 s, .int .i64 F, .slice p n c] 30))
  go_enter Try.func24, Try.ntmps24
  go_wp2_with (first
    | (go_at_call 19; (with_reducible refine (HV.out _ ?_).mono ?_); (focus exact HR.out.keep HB.out); rintro e w1 ⟨rfl, hb⟩; (have G3 := hide ((hb.block _ (Array.getElem?_eq_some_iff.1 G3.out).1).trans G3.out)); (have HB := hide (HB.out.trans (hb.mono HB.out.size))); (obtain ⟨c0, c1, c2, -, -, -⟩ := tri_cells G3.out); clear hb)
    | (go_at_call 30; (with_reducible refine (HIN.out _).mono ?_); rintro e w2 ⟨rfl, rfl⟩))
  go_loopw [8, 9] (fun v t9 wr => ∃ k : Nat, k ≤ n ∧ t9 = .int .i64 (F + k : Nat) ∧ Hid (wr.heap[w.heap.size]? = some (.cells #[.int .i64 s, .int .i64 F, .slice p n c] 30 (0, 0))) ∧ Hid (Own wr (w.heap.size + 1) 3 1 v (hitsF L F k).length (natVals (hitsF L F k))) ∧ Hid ((hitsF L F k).length ≤ most) ∧ Hid (Below w.heap.size w wr)) (fun _ t9 _ => (nx + 1) - (intOf t9).toNat)
  case atStart => exact ⟨0, Nat.zero_le _, rfl, G3, Own.nil _ _ _ _, Nat.zero_le _, HB⟩
  case round =>
    clear G3 HB c0 c1 c2
    obtain ⟨k, hk, rfl, G3, HO, HML, HB⟩ := hrel
    obtain ⟨a, cc, rfl, hnat⟩ := HO.out.natRow
    have HNAT := hide hnat
    have hstep : hitsF L F (k + 1) = hitsF L F k ++ (if hasB L ((F + k : Nat) : Int) = true then [F + k] else []) := rfl
    have HTK := hide (hits_take L F k n most hk HML.out)
    obtain ⟨J, hJ⟩ : ∃ J, hitsF L F k = J := ⟨_, rfl⟩
    rw [hJ] at HO HML HNAT hstep HTK ⊢
    obtain ⟨qk, hqk⟩ : ∃ qk, F + k = qk := ⟨_, rfl⟩
    rw [hqk] at hstep ⊢
    obtain ⟨m, hm'⟩ : ∃ m, J.length = m := ⟨_, rfl⟩
    rw [hm'] at HML HTK HO HNAT ⊢
    have hmm : m ≤ most := HML.out
    have HJ := hide hJ
    have HST := hide hstep
    have HQK := hide hqk
    have HMM := hide hm'
    have hqb : qk ≤ 1073741825 := by have := HNXE.out; omega
    by_cases hgo : k < n ∧ m < most
    · obtain ⟨hlt, hmo⟩ := hgo
      have hqn : qk < nx := by have := HNXE.out; omega
      have d1 : decide ((qk : Int) < (nx : Int)) = true := by simp; omega
      have d1' : decide (qk < nx) = true := by simp; omega
      have d2 : decide ((m : Int) < (most : Int)) = true := by simp; omega
      have d2' : decide (m < most) = true := by simp; omega
      clear hnat hstep hJ hqk hm'
      obtain ⟨c0, c1, c2, -, -, -⟩ := tri_cells G3.out
      go_wp2_with (first
        | (go_at_call 20; (with_reducible refine (HNX.out _).mono ?_); rintro e w2 ⟨rfl, hb2⟩; (have G3 := hide ((hb2.block _ (Array.getElem?_eq_some_iff.1 G3.out).1).trans G3.out)); (have HO := hide (HO.out.keep hb2)); (have HNAT := hide (HNAT.out.keep hb2)); (have HB := hide (HB.out.trans (hb2.mono HB.out.size))); clear hb2 c0 c1 c2))
      go_loop [8, 10] (fun v i => ∃ j : Nat, j ≤ L.length ∧ v = .slice a m cc ∧ i = .int .i64 j ∧ Hid (hasB (L.take j) (qk : Int) = false)) (fun _ i => L.length - (intOf i).toNat)
      case atStart => exact ⟨0, Nat.zero_le _, rfl, rfl, rfl⟩
      case round =>
        obtain ⟨j, hj, rfl, rfl, hno⟩ := hrel
        by_cases hjl : j < L.length
        · have e1 : decide ((j : Int) < (L.length : Int)) = true := by simp; omega
          have e1' : decide (j < L.length) = true := by simp; omega
          rcases HRL.out with h0 | ⟨b, off, rfl, hc⟩
          · omega
          · obtain ⟨c0, c1⟩ := hc j hjl
            have c0 : w2.cell? ⟨b, off + j * 2, none⟩ = some (.int .i64 L[j].1) := by rw [HB.out.cell (block_lt_of_cell c0)]; exact c0
            have c1 : w2.cell? ⟨b, off + j * 2 + 1, none⟩ = some (.int .i64 L[j].2) := by rw [HB.out.cell (block_lt_of_cell c1)]; exact c1
            have HC := hide hc
            have hs := hide (hasB_succ L (qk : Int) j hjl hno.out)
            have hh := hide (hasB_hit L (qk : Int) j hjl)
            clear hc
            generalize L[j] = y at *
            obtain ⟨y1, y2⟩ := y
            simp only at c0 c1
            by_cases h1 : y1 ≤ (qk : Int)
            · have f1 : decide (y1 ≤ (qk : Int)) = true := decide_eq_true h1
              by_cases h2 : (qk : Int) < y2
              · have f2 : decide ((qk : Int) < y2) = true := decide_eq_true h2
                have HST2 : Hid (hitsF L F (k + 1) = J ++ [qk]) := by show _ = _; rw [HST.out, hh.out h1 h2]; simp
                clear h1 h2
                go_wp2_with (first
                  | (at_builtin
                     refine wpList_append_elem w2 rfl _ _ 22 rfl (w.heap.size + 1) 3 i0 _ 1 8 Try.underlying22 hi0 hz0 hz1 hz2 rfl (by decide) _ m _ [.int .i64 (qk : Int)] HO.out rfl rfl rfl rfl (by omega) (by omega) (Array.getElem?_eq_some_iff.1 G3.out).1 ?_
                     intro v4 w4 hown hb hrest
                     (have G3 := hide ((hb.block _ (Nat.lt_succ_self _)).trans G3.out)); (have HO := hide hown); (have HB := hide (HB.out.trans (hb.mono (Nat.le_succ _))))
                     clear hown hb hrest))
                go_roundw
                case rel => exact ⟨k + 1, by omega, by rw [show F + (k + 1) = qk + 1 by have := HQK.out; omega]; go_num, G3, by
                  rw [HST2.out, List.length_append, HMM.out]
                  exact hide (by simpa [natVals] using HO.out), by rw [HST2.out, List.length_append, HMM.out]; exact hide (by simp; omega), HB⟩
                case measure => simp [intOf]; omega
              · have f2 : decide ((qk : Int) < y2) = false := decide_eq_false h2
                have hn2 := hide (show hasB (L.take (j + 1)) (qk : Int) = false from by rw [hs.out]; simp [f1, f2])
                clear h1 h2
                go_wp2
                go_round
                case rel => exact ⟨j + 1, by omega, rfl, by go_num, hn2⟩
                case measure => simp [intOf]; omega
            · have f1 : decide (y1 ≤ (qk : Int)) = false := decide_eq_false h1
              have hn2 := hide (show hasB (L.take (j + 1)) (qk : Int) = false from by rw [hs.out]; simp [f1])
              clear h1
              go_wp2
              go_round
              case rel => exact ⟨j + 1, by omega, rfl, by go_num, hn2⟩
              case measure => simp [intOf]; omega
        · have e1 : decide ((j : Int) < (L.length : Int)) = false := by simp; omega
          have e1' : decide (j < L.length) = false := by simp; omega
          have hf : hasB L (qk : Int) = false := by
            have := hno.out
            rwa [show j = L.length by omega, List.take_length] at this
          have HST2 : Hid (hitsF L F (k + 1) = J) := by show _ = _; rw [HST.out, hf]; simp
          clear hf
          go_wp2
          go_roundw
          case rel => exact ⟨k + 1, by omega, by rw [show F + (k + 1) = qk + 1 by have := HQK.out; omega]; go_num, G3, by rw [HST2.out]; rw [HMM.out]; exact HO, by rw [HST2.out]; exact hide (by rw [HMM.out]; exact hmm), HB⟩
          case measure => simp [intOf]; omega
    · clear hnat hstep hJ hqk hm'
      have hex : (k = n ∧ decide ((qk : Int) < (nx : Int)) = false ∧ decide (qk < nx) = false) ∨ (k < n ∧ m = most ∧ decide ((qk : Int) < (nx : Int)) = true ∧ decide (qk < nx) = true ∧ decide ((m : Int) < (most : Int)) = false ∧ decide (m < most) = false) := by
        have h1 := HNXE.out
        have h2 := HQK.out
        by_cases hkn : k < n
        · exact .inr ⟨hkn, by omega, by simp; omega, by simp; omega, by simp; omega, by simp; omega⟩
        · exact .inl ⟨by omega, by simp; omega, by simp; omega⟩
      have HRES := hide (show J = (hitsF L F n).take most from HTK.out (by rcases hex with h | h; exact .inl h.1; exact .inr h.2.1))
      rcases hex with ⟨h1, d1, d1'⟩ | ⟨h1, h2, d1, d1', d2, d2'⟩
      all_goals
        (try have HH1 := hide h1)
        (try have HH2 := hide h2)
        (try clear h1)
        (try clear h2)
        obtain ⟨c0, c1, c2, -, -, -⟩ := tri_cells G3.out
        go_wp2_with (first
          | (go_at_call 20; (with_reducible refine (HNX.out _).mono ?_); rintro e w2 ⟨rfl, hb2⟩; (have G3 := hide ((hb2.block _ (Array.getElem?_eq_some_iff.1 G3.out).1).trans G3.out)); (have HO := hide (HO.out.keep hb2)); (have HNAT := hide (HNAT.out.keep hb2)); (have HB := hide (HB.out.trans (hb2.mono HB.out.size))); clear hb2 c0 c1 c2))
        go_ret2
        exact ⟨⟨a, cc, by rw [← HRES.out, HMM.out]; first | rfl | simp, by rw [← HRES.out, HMM.out]; exact HNAT.out⟩, HB.out⟩
/-- The error of Answer, and its numbers. -/
def aE (s f : Int) (D : List ByteArray) (most : Int) : Int := if vldB s f D = false then 1 else if 0 ≤ most ∧ most ≤ 256 then 0 else 2
def aJ (s f : Int) (D : List ByteArray) (L : List (Int × Int)) (most : Int) : List Nat := if aE s f D most = 0 then (hitsF L f.toNat D.length).take most.toNat else []

set_option maxHeartbeats 2000000 in
theorem snd_ans_bad (s f : Int) (D : List ByteArray) (p : Option Addr) (n c : Nat) (hv : vldB s f D = false) (hD : D.length ≤ 1000000) (pl : Option Addr) (nl cl : Nat) (most : Int) (w : World) (hr : StrRow w p n D) :
    Calls Try.prog 23 #[.agg #[.int .i64 s, .int .i64 f, .slice p n c], .slice pl nl cl, .int .i64 most] w fun e w' => e = .returned (.tuple #[.slice none 0 0, .int .i64 1]) ∧ Below w.heap.size w w' := by
  have HV := hide (fun (W : World) (hW : StrRow W p n D) => snd_valid_no s f D p n c hv hD W hW)
  have HR := hide hr
  have HB := hide (below1 (w := w) (.cells #[.int .i64 s, .int .i64 f, .slice p n c] 30))
  clear hr hv hD
  go_enter Try.func23, Try.ntmps23
  go_wp2_with (first
    | (go_at_call 13; (with_reducible refine (HV.out _ ?_).mono ?_); (focus exact HR.out.keep HB.out); rintro e w1 ⟨rfl, hb⟩; (have HB := hide (HB.out.trans (hb.mono HB.out.size))); clear hb))
  go_ret2
  exact ⟨by first | rfl | simp, HB.out⟩
set_option maxHeartbeats 2000000 in
theorem snd_ans_range (s f : Nat) (D : List ByteArray) (p : Option Addr) (n c : Nat) (hok : SOk s f D) (pl : Option Addr) (nl cl : Nat) (most : Int) (hm : most < 0 ∨ 256 < most) (w : World) (hr : StrRow w p n D) :
    Calls Try.prog 23 #[.agg #[.int .i64 s, .int .i64 f, .slice p n c], .slice pl nl cl, .int .i64 most] w fun e w' => e = .returned (.tuple #[.slice none 0 0, .int .i64 2]) ∧ Below w.heap.size w w' := by
  have HV := hide (fun (W : World) (hW : StrRow W p n D) => snd_valid s f D p n c hok W hW)
  have HIN := hide (snd_in_no most 0 256 hm)
  have HR := hide hr
  have HB := hide (below1 (w := w) (.cells #[.int .i64 s, .int .i64 f, .slice p n c] 30))
  clear hr hok hm
  go_enter Try.func23, Try.ntmps23
  go_wp2_with (first
    | (go_at_call 13; (with_reducible refine (HV.out _ ?_).mono ?_); (focus exact HR.out.keep HB.out); rintro e w1 ⟨rfl, hb⟩; (have HB := hide (HB.out.trans (hb.mono HB.out.size))); clear hb)
    | (go_at_call 27; (with_reducible refine (HIN.out _).mono ?_); rintro e w2 ⟨rfl, rfl⟩))
  go_ret2
  exact ⟨by first | rfl | simp, HB.out⟩
theorem snd_ans_any (s f : Int) (D : List ByteArray) (p : Option Addr) (n c : Nat) (hD : D.length ≤ 1000000) (L : List (Int × Int)) (pl : Option Addr) (nl cl : Nat) (hL : L.length ≤ 1000) (most : Int) (w : World) (hr : StrRow w p n D) (hrl : SpRow w pl nl L) :
    Calls Try.prog 23 #[.agg #[.int .i64 s, .int .i64 f, .slice p n c], .slice pl nl cl, .int .i64 most] w fun e w' => (∃ a cc, e = .returned (.tuple #[.slice a (aJ s f D L most).length cc, .int .i64 (aE s f D most)]) ∧ NatRow w' a (aJ s f D L most).length (aJ s f D L most)) ∧ Below w.heap.size w w' := by
  cases hv : vldB s f D
  · have e1 : aE s f D most = 1 := if_pos hv
    have e2 : aJ s f D L most = [] := if_neg (by rw [e1]; decide)
    rw [e1, e2]
    exact (snd_ans_bad s f D p n c hv hD pl nl cl most w hr).mono fun _ _ ⟨h1, h2⟩ => ⟨⟨none, 0, h1, rfl, .inl rfl⟩, h2⟩
  · have hv' : ¬ vldB s f D = false := by rw [hv]; decide
    obtain ⟨s', f', rfl, rfl, hok⟩ := vld_ok hv
    by_cases hm : 0 ≤ most ∧ most ≤ 256
    · have e1 : aE (s' : Int) (f' : Int) D most = 0 := by rw [aE, if_neg hv', if_pos hm]
      obtain ⟨mo, rfl⟩ : ∃ mo : Nat, most = (mo : Int) := ⟨most.toNat, by omega⟩
      have e2 : aJ (s' : Int) (f' : Int) D L (mo : Int) = (hitsF L f' D.length).take mo := by rw [aJ, if_pos e1]; rfl
      have hn := hr.1
      rw [e1, e2, ← hn]
      exact snd_ans_ok s' f' D p n c hok L pl nl cl hL mo (by omega) w hr hrl
    · have e1 : aE (s' : Int) (f' : Int) D most = 2 := by rw [aE, if_neg hv', if_neg hm]
      have e2 : aJ (s' : Int) (f' : Int) D L most = [] := if_neg (by rw [e1]; decide)
      rw [e1, e2]
      exact (snd_ans_range s' f' D p n c hok pl nl cl most (by omega) w hr).mono fun _ _ ⟨h1, h2⟩ => ⟨⟨none, 0, h1, rfl, .inl rfl⟩, h2⟩
set_option maxHeartbeats 2000000 in
theorem sref_ans_bad (s f : Int) (D : List ByteArray) (p : Option Addr) (n c : Nat) (hv : vldB s f D = false) (hD : D.length ≤ 1000000) (pl : Option Addr) (nl cl : Nat) (most : Int) (w : World) (hr : StrRow w p n D) :
    Calls Try.prog 24 #[.agg #[.int .i64 s, .int .i64 f, .slice p n c], .slice pl nl cl, .int .i64 most] w fun e w' => e = .returned (.tuple #[.slice none 0 0, .int .i64 1]) ∧ Below w.heap.size w w' := by
  have HV := hide (fun (W : World) (hW : StrRow W p n D) => sref_valid_no s f D p n c hv hD W hW)
  have HR := hide hr
  have HB := hide (below1 (w := w) (.cells #[.int .i64 s, .int .i64 f, .slice p n c] 30))
  clear hr hv hD
  go_enter Try.func24, Try.ntmps24
  go_wp2_with (first
    | (go_at_call 19; (with_reducible refine (HV.out _ ?_).mono ?_); (focus exact HR.out.keep HB.out); rintro e w1 ⟨rfl, hb⟩; (have HB := hide (HB.out.trans (hb.mono HB.out.size))); clear hb))
  go_ret2
  exact ⟨by first | rfl | simp, HB.out⟩
set_option maxHeartbeats 2000000 in
theorem sref_ans_range (s f : Nat) (D : List ByteArray) (p : Option Addr) (n c : Nat) (hok : SOk s f D) (pl : Option Addr) (nl cl : Nat) (most : Int) (hm : most < 0 ∨ 256 < most) (w : World) (hr : StrRow w p n D) :
    Calls Try.prog 24 #[.agg #[.int .i64 s, .int .i64 f, .slice p n c], .slice pl nl cl, .int .i64 most] w fun e w' => e = .returned (.tuple #[.slice none 0 0, .int .i64 2]) ∧ Below w.heap.size w w' := by
  have HV := hide (fun (W : World) (hW : StrRow W p n D) => sref_valid s f D p n c hok W hW)
  have HIN := hide (utc_in_no most 0 256 hm)
  have HR := hide hr
  have HB := hide (below1 (w := w) (.cells #[.int .i64 s, .int .i64 f, .slice p n c] 30))
  clear hr hok hm
  go_enter Try.func24, Try.ntmps24
  go_wp2_with (first
    | (go_at_call 19; (with_reducible refine (HV.out _ ?_).mono ?_); (focus exact HR.out.keep HB.out); rintro e w1 ⟨rfl, hb⟩; (have HB := hide (HB.out.trans (hb.mono HB.out.size))); clear hb)
    | (go_at_call 30; (with_reducible refine (HIN.out _).mono ?_); rintro e w2 ⟨rfl, rfl⟩))
  go_ret2
  exact ⟨by first | rfl | simp, HB.out⟩
theorem sref_ans_any (s f : Int) (D : List ByteArray) (p : Option Addr) (n c : Nat) (hD : D.length ≤ 1000000) (L : List (Int × Int)) (pl : Option Addr) (nl cl : Nat) (hL : L.length ≤ 1000) (most : Int) (w : World) (hr : StrRow w p n D) (hrl : SpRow w pl nl L) :
    Calls Try.prog 24 #[.agg #[.int .i64 s, .int .i64 f, .slice p n c], .slice pl nl cl, .int .i64 most] w fun e w' => (∃ a cc, e = .returned (.tuple #[.slice a (aJ s f D L most).length cc, .int .i64 (aE s f D most)]) ∧ NatRow w' a (aJ s f D L most).length (aJ s f D L most)) ∧ Below w.heap.size w w' := by
  cases hv : vldB s f D
  · have e1 : aE s f D most = 1 := if_pos hv
    have e2 : aJ s f D L most = [] := if_neg (by rw [e1]; decide)
    rw [e1, e2]
    exact (sref_ans_bad s f D p n c hv hD pl nl cl most w hr).mono fun _ _ ⟨h1, h2⟩ => ⟨⟨none, 0, h1, rfl, .inl rfl⟩, h2⟩
  · have hv' : ¬ vldB s f D = false := by rw [hv]; decide
    obtain ⟨s', f', rfl, rfl, hok⟩ := vld_ok hv
    by_cases hm : 0 ≤ most ∧ most ≤ 256
    · have e1 : aE (s' : Int) (f' : Int) D most = 0 := by rw [aE, if_neg hv', if_pos hm]
      obtain ⟨mo, rfl⟩ : ∃ mo : Nat, most = (mo : Int) := ⟨most.toNat, by omega⟩
      have e2 : aJ (s' : Int) (f' : Int) D L (mo : Int) = (hitsF L f' D.length).take mo := by rw [aJ, if_pos e1]; rfl
      have hn := hr.1
      rw [e1, e2, ← hn]
      exact sref_ans_ok s' f' D p n c hok L pl nl cl hL mo (by omega) w hr hrl
    · have e1 : aE (s' : Int) (f' : Int) D most = 2 := by rw [aE, if_neg hv', if_neg hm]
      have e2 : aJ (s' : Int) (f' : Int) D L most = [] := if_neg (by rw [e1]; decide)
      rw [e1, e2]
      exact (sref_ans_range s' f' D p n c hok pl nl cl most (by omega) w hr).mono fun _ _ ⟨h1, h2⟩ => ⟨⟨none, 0, h1, rfl, .inl rfl⟩, h2⟩
end Go.Proofs.Ytpniokkllkjhhaa
