/- The walks of the clock: Jumps. -/
import Derived.Test.YtecoemdhnphmdaaClockWalkD
import Derived.Test.YtecoemdhnphmdaaOwnB
namespace Go.Proofs.Ytecoemdhnphmdaa
open Go.RowKit
set_option linter.unusedVariables false
set_option linter.unusedSimpArgs false
def natVals (J : List Nat) : List Value := J.map fun j : Nat => Value.int .i64 (j : Int)
theorem Own.natRow {w : World} {B : Nat} {e : TypeId} {v : Value} {n : Nat} {J : List Nat} (h : Own w B e 1 v n (natVals J)) : ∃ a cap, v = .slice a J.length cap ∧ NatRow w a J.length J := by
  have h0 := h
  obtain ⟨hl, h⟩ := h
  have hn : J.length = n := by simpa [natVals] using hl
  subst hn
  rcases h with ⟨rfl, h2⟩ | ⟨g, cap, cur, fr, rfl, hrest⟩
  · exact ⟨none, 0, by rw [h2], rfl, .inl h2⟩
  · refine ⟨_, cap, rfl, rfl, .inr ⟨g, 0, rfl, fun i hi => ?_⟩⟩
    have := ((h0.cells rfl).2 _ rfl).2 i (.int .i64 (J[i] : Nat)) (by simp [natVals, hi])
    have hadd : (⟨g, 0, none⟩ : Addr).add i = ⟨g, 0 + i, none⟩ := by
      unfold Addr.add; split
      · rename_i h; subst h; rfl
      · simp
    rw [hadd] at this
    exact this
theorem info_int : (Try.prog.info? 3).map (fun i => (i.zero, i.size, i.bytes)) = some (some (.int .i64 0), 1, 8) := by kernel_rfl
theorem anc_cells {w wr : World} {b off : Nat} {n : Nat} {A : Nat → Anc} (hc : ∀ i, i < n → w.cell? ⟨b, off + i * 3, none⟩ = some (.int .i64 (A i).tag) ∧ w.cell? ⟨b, off + i * 3 + 1, none⟩ = some (.int .i64 (A i).low) ∧ w.cell? ⟨b, off + i * 3 + 2, none⟩ = some (.int .i64 (A i).high))
    (hb : Below w.heap.size w wr) {k : Nat} (hk : k < n) : wr.cell? ⟨b, off + k * 3, none⟩ = some (.int .i64 (A k).tag) ∧ wr.cell? ⟨b, off + k * 3 + 1, none⟩ = some (.int .i64 (A k).low) ∧ wr.cell? ⟨b, off + k * 3 + 2, none⟩ = some (.int .i64 (A k).high) := by
  obtain ⟨h1, h2, h3⟩ := hc k hk
  exact ⟨by rw [hb.cell (block_lt_of_cell h1)]; exact h1, by rw [hb.cell (block_lt_of_cell h2)]; exact h2, by rw [hb.cell (block_lt_of_cell h3)]; exact h3⟩
set_option maxHeartbeats 4000000 in
set_option maxRecDepth 100000 in
theorem jumps_ok (A : Nat → Anc) (n : Nat) (p : Option Addr) (cap : Nat) (x : Int) (hL : AncL n A) (hx : 0 ≤ x ∧ x ≤ 500000) (w : World) (hr : AncRow w p n A) :
    Calls Try.prog 16 #[.slice p n cap, .int .i64 x] w fun e w' => (∃ a c, e = .returned (.tuple #[.slice a (jumpsF A x n).length c, .int .i64 0]) ∧ NatRow w' a (jumpsF A x n).length (jumpsF A x n)) ∧ Below w.heap.size w w' := by
  have q := hide (valid_ok A n p cap x hL hx w hr)
  have HL := hide hL
  have HR := hide hr
  have hn : n ≤ 256 := hL.few
  have HX := hide hx
  have HA := hide (fun (i j : Nat) (hi : i < n) (hj : j < n) => agrees_ok (A i) (A j) x (hL.one i hi).1 hx (hL.one j hj).1)
  obtain ⟨i0, hi0, hz0, hz1, hz2⟩ := info_parts info_int
  clear hL hr hx
  go_enter Try.func16, Try.ntmps16
  go_wp2_with (go_at_call 26; (with_reducible refine (q.out).mono ?_); rintro e w1 ⟨rfl, hb0⟩)
  go_loopw [6, 7] (fun v i wr => ∃ k : Nat, 1 ≤ k ∧ (k ≤ n ∨ k = 1) ∧ i = .int .i64 k ∧ Own wr w.heap.size 3 1 v (jumpsF A x k).length (natVals (jumpsF A x k)) ∧ Below w.heap.size w wr) (fun _ i _ => n - (intOf i).toNat)
  case atStart => exact ⟨1, by omega, .inr rfl, rfl, by show Own _ _ _ _ _ ([] ++ _).length (natVals ([] ++ _)); simpa [natVals] using Own.nil _ _ _ _, hb0⟩
  case round =>
    obtain ⟨k, hk1, hk, rfl, hown, hb⟩ := hrel
    clear hb0
    by_cases hlt : k < n
    · rcases HR.out with h0 | ⟨b, off, rfl, hc⟩
      · omega
      · obtain ⟨j, rfl⟩ : ∃ j, k = j + 1 := ⟨k - 1, by omega⟩
        obtain ⟨c0, c1, c2⟩ := anc_cells hc hb (k := j) (by omega)
        obtain ⟨d0, d1, d2⟩ := anc_cells hc hb (k := j + 1) (by omega)
        have c0 := fun q : More => cell_more c0 q
        have c1 := fun q : More => cell_more c1 q
        have c2 := fun q : More => cell_more c2 q
        have d0 := fun q : More => cell_more d0 q
        have d1 := fun q : More => cell_more d1 q
        have d2 := fun q : More => cell_more d2 q
        have q2 := HA.out j (j + 1) (by omega) hlt
        have hstep : jumpsF A x (j + 1 + 1) = jumpsF A x (j + 1) ++ (if agr (A j) (A (j + 1)) x = false then [j + 1] else []) := by
          show _ ++ (if 1 ≤ j + 1 ∧ agr (A (j + 1 - 1)) (A (j + 1)) x = false then [j + 1] else []) = _
          rw [show j + 1 - 1 = j by omega]
          simp
        have hlen := jumps_length A x (j + 1)
        have HC := hide hc
        have HS := hide hstep
        clear hstep
        generalize jumpsF A x (j + 1) = J at *
        generalize agr (A j) (A (j + 1)) x = r at *
        have hj0 : (((j + 1 : Nat) : Int) - 1) = (j : Int) := by omega
        have hj1 : ((j : Int) + 1 - 1) = (j : Int) := by omega
        have hj4 : (j : Int) < (n : Int) := by omega
        have hj5 : (j : Int) + 1 < (n : Int) := by omega
        have hjn : ((j : Int) + 1).toNat = j + 1 := by omega
        have Q2 := hide q2
        have HB := hide hb
        have HO := hide hown
        clear hc q2 hb hown
        cases r
        · go_wp2_with fail
          refine wp_region_grown (by kernel_rfl) (by kernel_rfl) ?_
          repeat (go_big_quiet_step ((go_at_call 38; exact more_of (Q2.out _))))
          refine wpQuiet_nil ?_
          intro w2 hb2
          have hown2 := HO.out.keep hb2
          have hb3 := HB.out.trans (hb2.mono HB.out.size)
          have hsz := hb3.size
          clear c0 c1 c2 d0 d1 d2
          go_wp2_with (first
            | (at_builtin
               refine wpList_append_elem w2 rfl _ _ 22 rfl w.heap.size 3 i0 _ 1 8 Try.underlying22 hi0 hz0 hz1 hz2 rfl (by decide) _ J.length _ [.int .i64 ((j + 1 : Nat) : Int)] hown2 rfl rfl rfl rfl (by omega) (by omega) hsz ?_
               intro v1 w1 hown1 hb4 _))
          go_roundw
          case rel => exact ⟨j + 2, by omega, by omega, by go_num, by rw [show j + 2 = j + 1 + 1 from rfl, HS.out]; simpa [natVals] using hown1, hb3.trans hb4⟩
          case measure => simp [intOf]; omega
        · go_wp2_with fail
          refine wp_region_grown (by kernel_rfl) (by kernel_rfl) ?_
          repeat (go_big_quiet_step ((go_at_call 38; exact more_of (Q2.out _))))
          refine wpQuiet_nil ?_
          intro w2 hb2
          have hown2 := HO.out.keep hb2
          have hb3 := HB.out.trans (hb2.mono HB.out.size)
          have hsz := hb3.size
          clear c0 c1 c2 d0 d1 d2
          go_wp2_with fail
          go_roundw
          case rel => exact ⟨j + 2, by omega, by omega, by go_num, by rw [show j + 2 = j + 1 + 1 from rfl, HS.out]; simpa [natVals] using hown2, hb3⟩
          case measure => simp [intOf]; omega
    · have he : jumpsF A x k = jumpsF A x n := by
        rcases hk with h | rfl
        · rw [show k = n by omega]
        · rcases Nat.eq_zero_or_pos n with rfl | h1
          · rfl
          · rw [show n = 1 by omega]
      rw [he] at hown
      obtain ⟨a, c, rfl, hnat⟩ := hown.natRow
      have HN := hide hnat
      have HB := hide hb
      have d : decide ((k : Int) < (n : Int)) = false := by simp; omega
      have d' : decide (k < n) = false := by simp; omega
      clear he hnat hb hown
      go_wp2
      go_ret2
      exact ⟨⟨a, c, by first | rfl | simp, HN.out⟩, HB.out⟩
end Go.Proofs.Ytecoemdhnphmdaa
