/- The walk of the statement ClockMoves. -/
import Derived.Test.YtecoemdhnphmdaaClockTrueLaw
namespace Go.Proofs.Ytecoemdhnphmdaa
open Go.RowKit
set_option linter.unusedVariables false
set_option linter.unusedSimpArgs false
theorem made_bool2 (W : World) (a : Option Addr) (len cap g : Nat) (w : World) (hd : Die W a len cap g w) :
    Calls Try.prog 14 #[.pointer (some ⟨g, 0, none⟩), .int .i64 2] w fun e w' => (∃ b : Bool, e = .returned (.bool b)) ∧ Die W a len cap g w' ∧ Rolls g w w' := by
  have Q := hide (made_next W a len cap g 2 ⟨by omega, by omega⟩ w hd)
  clear hd
  go_enter Try.func14, Try.ntmps14
  go_wp2_with (go_at_call 18; (with_reducible refine (Q.out).mono ?_); rintro e w1 ⟨⟨x, rfl, x0, x1⟩, hd1, hr1⟩; (have HD := hide hd1); (have HR := hide hr1); clear hd1 hr1)
  go_ret
  exact ⟨⟨_, rfl⟩, HD.out, HR.out⟩
theorem AncRow.news {w : World} {b off : Nat} {L : List Anc} (h : ∀ i, i < L.length → w.cell? ⟨b, off + i * 3, none⟩ = some (.int .i64 (ancAt L i).tag) ∧ w.cell? ⟨b, off + i * 3 + 1, none⟩ = some (.int .i64 (ancAt L i).low) ∧ w.cell? ⟨b, off + i * 3 + 2, none⟩ = some (.int .i64 (ancAt L i).high)) :
    ∀ j u, (ancVals L)[j]? = some u → w.cell? ((⟨b, off, none⟩ : Addr).add j) = some u := by
  intro j u hj
  have hadd : (⟨b, off, none⟩ : Addr).add j = ⟨b, off + j, none⟩ := by
    unfold Addr.add; split
    · rename_i h; subst h; rfl
    · rfl
  have hlt : j < (ancVals L).length := (List.getElem?_eq_some_iff.1 hj).1
  rw [ancVals_length] at hlt
  have hi : j / 3 < L.length := by omega
  obtain ⟨h1, h2, h3⟩ := h _ hi
  obtain ⟨g1, g2, g3⟩ := ancVals_get L _ hi
  rw [hadd]
  have hr : j = j / 3 * 3 ∨ j = j / 3 * 3 + 1 ∨ j = j / 3 * 3 + 2 := by omega
  generalize j / 3 = i at *
  rcases hr with rfl | rfl | rfl
  · rw [hj] at g1; rw [g1]; exact h1
  · rw [hj] at g2; rw [g2, ← Nat.add_assoc]; exact h2
  · rw [hj] at g3; rw [g3, ← Nat.add_assoc]; exact h3
theorem ancVals_one : ∀ L : List Anc, ∀ u ∈ ancVals L, u.oneCell' = true
  | [], u, h => by cases h
  | a :: L, u, h => by
    simp only [ancVals, List.mem_cons] at h
    rcases h with rfl | rfl | rfl | h
    · rfl
    · rfl
    · rfl
    · exact ancVals_one L u h
/-- The copy, of which the first k are moved. -/
def MovBlk (w : World) (g : Nat) (n : Nat) (A : Nat → Anc) (d : Int) (k : Nat) : Prop :=
  ∃ cur fr, w.heap[g]? = some (.cells cur 34 fr) ∧ Free fr cur.size ∧ n * 3 ≤ cur.size ∧ ∀ i, i < n →
    cur[i * 3]? = some (.int .i64 (A i).tag) ∧ cur[i * 3 + 1]? = some (.int .i64 (if i < k then (A i).low + d else (A i).low)) ∧ cur[i * 3 + 2]? = some (.int .i64 (if i < k then (A i).high + d else (A i).high))
theorem MovBlk.next {w : World} {g n : Nat} {A : Nat → Anc} {d : Int} {k : Nat} (h : MovBlk w g n A d k) (hk : k < n) : MovBlk ((w.setCell ⟨g, k * 3 + 1, none⟩ (.int .i64 ((A k).low + d))).setCell ⟨g, k * 3 + 2, none⟩ (.int .i64 ((A k).high + d))) g n A d (k + 1) := by
  obtain ⟨cur, fr, h1, h2, h3, h4⟩ := h
  refine ⟨_, fr, setCell_row (setCell_row h1 _) _, by simpa using h2, by simpa using h3, fun i hi => ?_⟩
  obtain ⟨a1, a2, a3⟩ := h4 i hi
  have e0 : ∀ j, j < cur.size → ((cur.setIfInBounds (k * 3 + 1) (.int .i64 ((A k).low + d))).setIfInBounds (k * 3 + 2) (.int .i64 ((A k).high + d)))[j]? = if j = k * 3 + 2 then some (.int .i64 ((A k).high + d)) else if j = k * 3 + 1 then some (.int .i64 ((A k).low + d)) else cur[j]? := fun j hj => by
    rw [Array.getElem?_setIfInBounds, Array.getElem?_setIfInBounds]
    by_cases e1 : k * 3 + 2 = j
    · subst e1; simp; omega
    · by_cases e2 : k * 3 + 1 = j
      · subst e2; simp; omega
      · rw [if_neg e1, if_neg e2, if_neg (fun h => e1 h.symm), if_neg (fun h => e2 h.symm)]
  rw [e0 _ (by omega), e0 _ (by omega), e0 _ (by omega)]
  by_cases hik : i = k
  · subst hik
    refine ⟨?_, ?_, ?_⟩
    · rw [if_neg (by omega), if_neg (by omega)]; exact a1
    · rw [if_neg (by omega), if_pos rfl, if_pos (by omega)]
    · rw [if_pos rfl, if_pos (by omega)]
  · refine ⟨?_, ?_, ?_⟩
    · rw [if_neg (by omega), if_neg (by omega)]; exact a1
    · rw [if_neg (by omega), if_neg (by omega), a2]
      by_cases hlt : i < k
      · rw [if_pos hlt, if_pos (by omega)]
      · rw [if_neg hlt, if_neg (by omega)]
    · rw [if_neg (by omega), if_neg (by omega), a3]
      by_cases hlt : i < k
      · rw [if_pos hlt, if_pos (by omega)]
      · rw [if_neg hlt, if_neg (by omega)]
theorem MovBlk.row {w : World} {g n : Nat} {A : Nat → Anc} {d : Int} (h : MovBlk w g n A d n) : AncRow w (some ⟨g, 0, none⟩) n (movA A d) := by
  obtain ⟨cur, fr, h1, h2, h3, h4⟩ := h
  refine AncRow.blk h1 (fun i hi => ?_)
  obtain ⟨a1, a2, a3⟩ := h4 i hi
  rw [if_pos hi] at a2 a3
  exact ⟨a1, a2, a3⟩
theorem Own.movBlk {w : World} {B : Nat} {v : Value} {n : Nat} {xs : List Value} {A : Nat → Anc} (d : Int) (h : Own w B 34 3 v (0 + n) ([] ++ xs)) (hn : 0 < n)
    (hg : ∀ i, i < n → xs[i * 3]? = some (.int .i64 (A i).tag) ∧ xs[i * 3 + 1]? = some (.int .i64 (A i).low) ∧ xs[i * 3 + 2]? = some (.int .i64 (A i).high)) :
    ∃ g cap, v = .slice (some ⟨g, 0, none⟩) n cap ∧ B ≤ g ∧ n ≤ cap ∧ cap ≤ 9223372036854775807 ∧ MovBlk w g n A d 0 := by
  rw [Nat.zero_add, List.nil_append] at h
  obtain ⟨hl, h⟩ := h
  rcases h with ⟨rfl, h2⟩ | ⟨g, cap, cur, fr, rfl, h1, h2, h3, h4, h5, h6, h7⟩
  · omega
  · refine ⟨g, cap, rfl, h1, h4, by unfold maxLen at h5; omega, cur, fr, h2, h3, by omega, fun i hi => ?_⟩
    have e : ∀ j, j < n * 3 → cur[j]? = xs[j]? := fun j hj => by
      rw [← h7, List.getElem?_take, if_pos hj, Array.getElem?_toList]
    obtain ⟨a1, a2, a3⟩ := hg i hi
    rw [e _ (by omega), e _ (by omega), e _ (by omega), if_neg (by omega), if_neg (by omega)]
    exact ⟨a1, a2, a3⟩
theorem mov_facts {A : Nat → Anc} {n : Nat} {x t d : Int} (hn : 0 < n) (hA : ∀ i, i < n → 1000 ≤ (A i).tag ∧ (A i).tag ≤ 101000 ∧ 999999998000 ≤ (A i).low ∧ (A i).low ≤ (A i).high ∧ (A i).high ≤ 1000100000000) (hx : 0 ≤ x ∧ x ≤ 500000) (ht : 0 ≤ t ∧ t ≤ 65535) (hd : 0 ≤ d ∧ d ≤ 4294967295) :
    (corE A n x t = 0 ∨ corE A n x t = 11) ∧ corE (movA A d) n x t = corE A n x t ∧ (corE A n x t = 0 → corT (movA A d) n x t = corT A n x t + d ∧ corO (movA A d) n x t = corO A n x t) ∧ 0 ≤ corT A n x t ∧ corT A n x t ≤ 9007199254740992 := by
  have hf : ∀ i, i < n → 0 ≤ frLo (A i) x t ∧ frLo (A i) x t ≤ 1001000000000 ∧ 0 ≤ frHi (A i) x t ∧ frHi (A i) x t ≤ 1001000000000 := fun i hi => by
    obtain ⟨h1, h2, h3, h4, h5⟩ := hA i hi
    have := fr_bounds (a := A i) (x := x) (t := t) hx.1 hx.2 h3 h5 h4 ht.1 (by omega) (by omega) (by omega)
    omega
  have hw := wit_bounds hn hf (jumpsF A x n) (jumps_in A x n)
  have hm := wit_mov A d x t n (jumpsF A x n)
  have c1 : corLo A n x t = witLo A n (jumpsF A x n) x t := by unfold corLo; omega
  have c2 : corHi A n x t = witHi A n (jumpsF A x n) x t := by unfold corHi; omega
  have c3 : corLo (movA A d) n x t = witLo A n (jumpsF A x n) x t + d := by unfold corLo; rw [jumps_mov, hm.1]; omega
  have c4 : corHi (movA A d) n x t = witHi A n (jumpsF A x n) x t + d := by unfold corHi; rw [jumps_mov, hm.2]; omega
  unfold corE corT corO
  rw [c1, c2, c3, c4]
  by_cases hle : witLo A n (jumpsF A x n) x t ≤ witHi A n (jumpsF A x n) x t
  · rw [if_pos hle, if_pos (by omega), if_pos (by omega), if_pos hle, if_pos (by omega), if_pos hle]
    refine ⟨.inl rfl, rfl, fun _ => ⟨by omega, by omega⟩, by omega, by omega⟩
  · rw [if_neg hle, if_neg (by omega), if_neg (by omega), if_neg hle, if_neg (by omega), if_neg hle]
    refine ⟨.inr rfl, rfl, fun h => by omega, by omega, by omega⟩
theorem movL {A : Nat → Anc} {n : Nat} {d : Int} (h : AncL n A) (hA : ∀ i, i < n → (A i).high ≤ 1000100000000) (hd : 0 ≤ d ∧ d ≤ 4294967295) : AncL n (movA A d) := by
  refine ⟨h.few, fun i hi => ?_, fun i h0 hi => h.up i h0 hi⟩
  obtain ⟨⟨a1, a2, a3, a4, a5, a6⟩, a7⟩ := h.one i hi
  have := hA i hi
  unfold movA AncT
  simp only
  omega
set_option maxHeartbeats 8000000 in
set_option maxRecDepth 100000 in
theorem clock_moves (a : Option Addr) (len cap : Nat) (m d : Int) (W : World) (hr : IntRow W a len) (hm : 0 ≤ m ∧ m ≤ 65535) (hd : 0 ≤ d ∧ d ≤ 4294967295) :
    Calls Try.prog 3 #[.slice a len cap, .int .u16 m, .int .u32 d] W fun e w' => e = .returned (.bool true) ∧ Below W.heap.size W w' := by
  have QS := hide (fun w => clock_sane w)
  have q1 := fun w => made_light a len cap hr.1 w
  obtain ⟨m0, m1⟩ := hm
  obtain ⟨d0, d1⟩ := hd
  by_cases hl : len ≤ 500
  · rw [decide_eq_true hl] at q1
    have Q1 := hide q1
    have Q2 := hide (made_roll a len cap W hr)
    obtain ⟨i0, hi0, hz0, hz1, hz2⟩ := info_parts info_anc
    clear q1 hl hr
    go_enter Try.func3, Try.ntmps3
    go_wp2_with (first
      | (go_at_call 10; (with_reducible refine (Q1.out _).mono ?_); rintro e w1 ⟨rfl, rfl⟩)
      | (go_at_call 12; (with_reducible refine (Q2.out).mono ?_); rintro e w1 ⟨rfl, hd1⟩; (have HD := hide hd1); clear hd1)
      | (go_at_call 14; (with_reducible refine (made_bool2 W a len cap _ _ HD.out).mono ?_); rintro e w2 ⟨⟨bb, rfl⟩, hd2, hr2⟩; (have HD := hide hd2); clear hd2 hr2))
    go_at_call 13
    refine (made_anchors bb _ HD.out).mono ?_
    rintro e w3 ⟨⟨L, x, tg, at', p, c, rfl, x0, x1, hL5, hspec, hrow, hc1, hc2⟩, hd2, hr2⟩
    have HB := hide (hd2.low)
    have hAL := hspec.ancL hL5
    have hRA := hspec.range hL5
    have hnews := fun (b off : Nat) h => AncRow.news (w := w3) (b := b) (off := off) (L := L) h
    have hvl := ancVals_length L
    have hv1 := ancVals_one L
    have hvg := ancVals_get L
    clear hd2 hr2 hspec Q1 Q2 HD
    generalize ancAt L = A at *
    generalize L.length = n at *
    generalize ancVals L = xs at *
    by_cases hn : n = 0
    · subst hn
      clear hAL hRA hrow hc1 hc2
      go_wp2_with (first
        | (go_at_call 11; (with_reducible refine (QS.out _).mono ?_); rintro e w4 ⟨rfl, hb⟩; (have HB := hide (HB.out.trans (hb.mono HB.out.size))); clear hb))
      go_ret
      exact ⟨rfl, HB.out⟩
    · rcases hrow with h0 | ⟨b, off, rfl, hcell⟩
      · omega
      have hnews2 := hnews b off hcell
      have HROW := hide (show AncRow w3 (some ⟨b, off, none⟩) n A from .inr ⟨b, off, rfl, hcell⟩)
      have HNEW := hide hnews2
      have HVL := hide hvl
      have HV1 := hide hv1
      have HVG := hide hvg
      have HRA := hide hRA
      have HAL := hide hAL
      have HC1 := hide hc1
      have HC2 := hide hc2
      have nz1 : decide ((n : Int) = 0) = false := by simp; omega
      have nz2 : ((n : Int) == 0) = false := by simp; omega
      have nz3 : decide (n = 0) = false := by simp; omega
      have hn256 : n ≤ 256 := hAL.few
      clear hnews hnews2 hcell hvl hv1 hvg hRA hAL hc1 hc2
      go_wp2_with (first
        | (at_builtin
           refine wpList_append_Own w3 rfl _ _ 29 rfl w3.heap.size 34 i0 _ 3 24 Try.underlying29 hi0 hz0 hz1 hz2 rfl (by decide) (.slice none 0 0) 0 [] rfl (Own.nil _ _ _ _) ⟨b, off, none⟩ n c xs rfl HVL.out HNEW.out HV1.out (by unfold maxLen; omega) (by omega) (Nat.le_refl _) ?_
           intro v w4 hown hgrown
           (have HO := hide hown); (have HB4 := hide ((Below.refl w3.heap.size w3).grown hgrown (Nat.le_refl _) (Own.nil w3 w3.heap.size 34 3).block_ge)); (obtain ⟨gm, cm, rfl, hgm, hcm1, hcm2, hmov⟩ := hown.movBlk d (by omega) HVG.out); (have HMV := hide hmov); clear hown hgrown hmov HO))
      go_loopw [44] (fun v wr => ∃ k : Nat, k ≤ n ∧ v = .int .i64 k ∧ Hid (Below w3.heap.size w3 wr) ∧ Hid (MovBlk wr gm n A d k)) (fun v _ => n - (intOf v).toNat)
      case atStart => exact ⟨0, Nat.zero_le _, rfl, HB4, HMV⟩
      case round =>
        clear HB4 HMV
        obtain ⟨k, hk, rfl, HB4, HMV⟩ := hrel
        by_cases hlt : k < n
        · have HNX := hide (HMV.out.next hlt)
          obtain ⟨cur, fr, h1, h2, h3, h4⟩ := HMV.out
          obtain ⟨g0, g1, g2⟩ := h4 k hlt
          rw [if_neg (by omega)] at g1 g2
          have c1 : wr.cell? ⟨gm, k * 3 + 1, none⟩ = some (.int .i64 (A k).low) := by rw [cell_of_row _ _ _ _ _ _ h1]; exact g1
          have c2 : wr.cell? ⟨gm, k * 3 + 2, none⟩ = some (.int .i64 (A k).high) := by rw [cell_of_row _ _ _ _ _ _ h1]; exact g2
          have f1 : wr.frozen? ⟨gm, k * 3 + 1, none⟩ = false := frozen_free h1 h2 (by omega)
          have f2 : wr.frozen? ⟨gm, k * 3 + 2, none⟩ = false := frozen_free h1 h2 (by omega)
          obtain ⟨r1, r2, r3, r4, r5⟩ := HRA.out k hlt
          clear h1 h2 h3 h4 g0 g1 g2 HMV
          generalize (A k).low = lo at *
          generalize (A k).high = hi at *
          have hkn : (k : Int) < (n : Int) := by omega
          have b1 : lo ≤ 1000100000000 := by omega
          have b2 : 999999998000 ≤ hi := by omega
          go_wp2
          go_region
          go_wp2
          go_roundw
          case rel => exact ⟨k + 1, by omega, by go_num, hide (((HB4.out.setCell (p := ⟨gm, k * 3 + 1, none⟩) hgm _).setCell (p := ⟨gm, k * 3 + 2, none⟩) hgm _).drew), hide (show MovBlk _ gm n A d (k + 1) from HNX.out)⟩
          case measure => simp [intOf]; omega
        · have hkn : k = n := by omega
          have hrow2 := HMV.out
          rw [hkn] at hrow2
          have HR2 := hide hrow2.row
          have HR1 := hide (HROW.out.keep HB4.out)
          have HB := hide (HB.out.trans (HB4.out.mono HB.out.size))
          clear hrow2 HMV HB4 HROW
          have q3 := fun (w : World) (hw : AncRow w (some ⟨b, off, none⟩) n A) => correct_ok A n (some ⟨b, off, none⟩) c x m HAL.out (by omega) HC1.out HC2.out ⟨by omega, by omega⟩ ⟨by omega, by omega⟩ w hw
          have q4 := fun (w : World) (hw : AncRow w (some ⟨gm, 0, none⟩) n (movA A d)) => correct_ok (movA A d) n (some ⟨gm, 0, none⟩) cm x m (movL HAL.out (fun i hi => (HRA.out i hi).2.2.2.2) ⟨d0, d1⟩) (by omega) hcm1 hcm2 ⟨by omega, by omega⟩ ⟨by omega, by omega⟩ w hw
          have q5 := fun (w : World) (hw : AncRow w (some ⟨b, off, none⟩) n A) => jumps_ok A n (some ⟨b, off, none⟩) c x HAL.out ⟨by omega, by omega⟩ w hw
          have q6 := fun (w : World) (hw : AncRow w (some ⟨gm, 0, none⟩) n (movA A d)) => jumps_ok (movA A d) n (some ⟨gm, 0, none⟩) cm x (movL HAL.out (fun i hi => (HRA.out i hi).2.2.2.2) ⟨d0, d1⟩) ⟨by omega, by omega⟩ w hw
          obtain ⟨u1, u2, u3, u4, u5⟩ := mov_facts (x := x) (t := m) (d := d) (by omega) HRA.out ⟨by omega, by omega⟩ ⟨by omega, by omega⟩ ⟨d0, d1⟩
          rw [u2] at q4
          simp only [jumps_mov] at q6
          have hjl := jumps_length A x n
          generalize jumpsF A x n = J at *
          generalize corE A n x m = E at *
          generalize corT A n x m = T at *
          generalize corO A n x m = O at *
          generalize corT (movA A d) n x m = T' at *
          generalize corO (movA A d) n x m = O' at *
          have e1 : decide ((k : Int) < (n : Int)) = false := by simp; omega
          have e1' : decide (k < n) = false := by simp; omega
          have Q3 := hide q3
          have Q4 := hide q4
          have Q5 := hide q5
          have Q6 := hide q6
          have hU : (E = 0 ∧ T' = T + d ∧ O' = O) ∨ E = 11 := by
            rcases u1 with h | h
            · exact .inl ⟨h, u3 h⟩
            · exact .inr h
          clear q3 q4 q5 q6 u1 u2 u3 hkn hk hlt
          rcases hU with ⟨rfl, rfl, rfl⟩ | rfl
          all_goals
            go_wp2_with (first
              | (go_at_call 15; (with_reducible refine (Q3.out _ ?_).mono ?_); (focus exact HR1.out); rintro e w5 ⟨rfl, hb⟩; (have HR1 := hide (HR1.out.keep hb)); (have HR2 := hide (HR2.out.keep hb)); (have HB := hide (HB.out.trans (hb.mono HB.out.size))); clear hb)
              | (go_at_call 15; (with_reducible refine (Q4.out _ ?_).mono ?_); (focus exact HR2.out); rintro e w5 ⟨rfl, hb⟩; (have HR1 := hide (HR1.out.keep hb)); (have HR2 := hide (HR2.out.keep hb)); (have HB := hide (HB.out.trans (hb.mono HB.out.size))); clear hb)
              | (go_at_call 16; (with_reducible refine (Q5.out _ ?_).mono ?_); (focus exact HR1.out); rintro e w5 ⟨⟨ja, jc, rfl, hj⟩, hb⟩; (have HJ1 := hide hj); (have HR2 := hide (HR2.out.keep hb)); (have HB := hide (HB.out.trans (hb.mono HB.out.size))); clear hb hj)
              | (go_at_call 16; (with_reducible refine (Q6.out _ ?_).mono ?_); (focus exact HR2.out); rintro e w6 ⟨⟨jb, jd, rfl, hj⟩, hb⟩; (have HJ2 := hide hj); (have HJ1 := hide (HJ1.out.keep hb)); (have HB := hide (HB.out.trans (hb.mono HB.out.size))); clear hb hj))
            have HZ := hide HB.out.size
            clear HR2
            go_loopw [122] (fun v wr => ∃ k2 : Nat, k2 ≤ J.length ∧ v = .int .i64 k2 ∧ Hid (Below w6.heap.size w6 wr)) (fun v _ => J.length - (intOf v).toNat)
            case atStart => exact ⟨0, Nat.zero_le _, rfl, Below.refl _ _⟩
            case round =>
              obtain ⟨k2, hk2, rfl, HB6⟩ := hrel
              by_cases hlt2 : k2 < J.length
              · obtain ⟨-, hz | ⟨b1, o1, rfl, hc1⟩⟩ := HJ1.out
                · omega
                obtain ⟨-, hz | ⟨b2, o2, rfl, hc2⟩⟩ := HJ2.out
                · omega
                have y1 := hc1 k2 hlt2
                have y2 := hc2 k2 hlt2
                have y1 : wr.cell? ⟨b1, o1 + k2, none⟩ = some (.int .i64 (J[k2] : Nat)) := by rw [HB6.out.cell (block_lt_of_cell y1)]; exact y1
                have y2 : wr.cell? ⟨b2, o2 + k2, none⟩ = some (.int .i64 (J[k2] : Nat)) := by rw [HB6.out.cell (block_lt_of_cell y2)]; exact y2
                clear hc1 hc2
                generalize J[k2] = jj at *
                generalize J.length = nj at *
                have hk3 : (k2 : Int) < (nj : Int) := by omega
                go_wp2
                go_region
                go_wp2
                go_roundw
                case rel => exact ⟨k2 + 1, by omega, by go_num, hide HB6.out.drew⟩
                case measure => simp [intOf]; omega
              · have HB := hide (HB.out.trans (HB6.out.mono HB.out.size))
                have hk3 : k2 = J.length := by omega
                generalize J.length = nj at *
                have e2 : decide ((k2 : Int) < (nj : Int)) = false := by simp; omega
                have e2' : decide (k2 < nj) = false := by simp; omega
                go_wp2_with (first
                  | (go_at_call 11; (with_reducible refine (QS.out _).mono ?_); rintro e w7 ⟨rfl, hb⟩; (have HB := hide (HB.out.trans (hb.mono HB.out.size))); clear hb))
                go_ret
                exact ⟨rfl, HB.out⟩
  · rw [decide_eq_false hl] at q1
    have Q1 := hide q1
    clear q1 hl hr
    go_enter Try.func3, Try.ntmps3
    go_wp2_with (first
      | (go_at_call 10; (with_reducible refine (Q1.out _).mono ?_); rintro e w1 ⟨rfl, rfl⟩)
      | (go_at_call 11; (with_reducible refine (QS.out _).mono ?_); rintro e w1 ⟨rfl, hb⟩))
    go_ret
    exact ⟨rfl, hb⟩
end Go.Proofs.Ytecoemdhnphmdaa
