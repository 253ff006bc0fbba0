/- The reader of numbers of package keep: New, Mod, Raw, N, Pick. -/
import Derived.Test.YtlhphhiodckaaaaProg
import Derived.Test.YtlhphhiodckaaaaLib
import Derived.Test.YtlhphhiodckaaaaLibQ
namespace Go.Proofs.Ytlhphhiodckaaaa
open Go.RowKit
set_option linter.unusedVariables false
set_option linter.unusedSimpArgs false
/-- A slice of ints that came in: its cells. -/
def IntRow (w : World) (a : Option Addr) (len : Nat) : Prop :=
  len ≤ 9223372036854775807 ∧ (len = 0 ∨ ∃ b off : Nat, a = some ⟨b, off, none⟩ ∧ ∀ i, i < len → ∃ x : Int, w.cell? ⟨b, off + i, none⟩ = some (.int .i64 x) ∧ -9223372036854775808 ≤ x ∧ x ≤ 9223372036854775807)
theorem IntRow.less {w : World} {a : Option Addr} {len m : Nat} (h : IntRow w a len) (hm : m ≤ len) : IntRow w a m := by
  obtain ⟨h1, h2⟩ := h
  refine ⟨by omega, ?_⟩
  by_cases hm0 : m = 0
  · exact .inl hm0
  rcases h2 with h2 | ⟨b, off, rfl, hc⟩
  · omega
  · exact .inr ⟨b, off, rfl, fun i hi => hc i (by omega)⟩
theorem IntRow.keep {w w' : World} {a : Option Addr} {len : Nat} (h : IntRow w a len) (hb : Below w.heap.size w w') : IntRow w' a len := by
  obtain ⟨h1, h2⟩ := h
  refine ⟨h1, ?_⟩
  rcases h2 with h2 | ⟨b, off, rfl, hc⟩
  · exact .inl h2
  · refine .inr ⟨b, off, rfl, fun i hi => ?_⟩
    obtain ⟨x, h1, h2⟩ := hc i hi
    exact ⟨x, by rw [hb.cell (block_lt_of_cell h1)]; exact h1, h2⟩
theorem intRow_nil (w : World) : IntRow w none 0 := ⟨by omega, .inl rfl⟩
theorem intRow_of {w : World} {x : Addr} {len : Nat} {zs : List Int} (hl : len ≤ zs.length) (hm : len ≤ maxLen) (hcell : ∀ i, i < zs.length → w.cell? (x.add i) = some (.int .i64 (zs.getD i 0))) (hwz : ∀ n ∈ zs, (Lit.int .i64 n).wf = true) : IntRow w (some x) len := by
  refine ⟨by simp [maxLen] at hm; omega, ?_⟩
  by_cases h0 : len = 0
  · exact .inl h0
  · obtain ⟨b, off, spot⟩ := x
    have hc := hcell 0 (by omega)
    have hspot : spot = none := by simpa [Addr.add] using World.cell?_spot hc
    subst hspot
    refine .inr ⟨b, off, rfl, fun i hi => ⟨zs.getD i 0, ?_, ?_⟩⟩
    · have := hcell i (by omega)
      by_cases hi0 : i = 0
      · subst hi0; simpa [Addr.add] using this
      · simpa [Addr.add, hi0] using this
    · have hmem : zs.getD i 0 ∈ zs := by
        rw [List.getD_eq_getElem?_getD, List.getElem?_eq_getElem (by omega)]; simp
      exact bounds_i64 (hwz _ hmem)
/-- The reader in block g: its list came in with the world W. -/
structure Src (W : World) (a : Option Addr) (len cap g : Nat) (w : World) : Prop where
  row : IntRow W a len
  big : W.heap.size ≤ g
  low : Below W.heap.size W w
  spot : ∃ i : Nat, i ≤ len ∧ w.heap[g]? = some (.cells #[.slice a len cap, .int .i64 i] 68 (0, 0))
/-- What a call that reads a number leaves as it was: all but the reader. -/
structure Rolls (g : Nat) (w w' : World) : Prop where
  size : w.heap.size ≤ w'.heap.size
  block : ∀ k, k < w.heap.size → k ≠ g → w'.heap[k]? = w.heap[k]?
theorem Rolls.refl (g : Nat) (w : World) : Rolls g w w := ⟨Nat.le_refl _, fun _ _ _ => rfl⟩
theorem Rolls.trans {g : Nat} {a b c : World} (h : Rolls g a b) (k : Rolls g b c) : Rolls g a c :=
  ⟨Nat.le_trans h.size k.size, fun i hi hg => (k.block i (Nat.lt_of_lt_of_le hi h.size) hg).trans (h.block i hi hg)⟩
theorem Rolls.of_below {g : Nat} {w w' : World} (h : Below w.heap.size w w') : Rolls g w w' := ⟨h.size, fun k hk _ => h.block k hk⟩
theorem Rolls.blk {g k : Nat} {w w' : World} {o : Obj} (h : Rolls g w w') (hk : w.heap[k]? = some o) (hg : k ≠ g) : w'.heap[k]? = some o := (h.block k (Array.getElem?_eq_some_iff.1 hk).1 hg).trans hk
theorem Src.keep {W : World} {a : Option Addr} {len cap g : Nat} {w w' : World} (h : Src W a len cap g w) (hb : Below w.heap.size w w') : Src W a len cap g w' := by
  obtain ⟨i, h1, h2⟩ := h.spot
  exact ⟨h.row, h.big, h.low.trans (hb.mono h.low.size), i, h1, (hb.block g (Array.getElem?_eq_some_iff.1 h2).1).trans h2⟩
theorem Src.lt {W : World} {a : Option Addr} {len cap g : Nat} {w : World} (h : Src W a len cap g w) : g < w.heap.size := by
  obtain ⟨i, _, h2⟩ := h.spot
  exact (Array.getElem?_eq_some_iff.1 h2).1
theorem Src.alloc {W : World} {a : Option Addr} {len cap g : Nat} {w : World} (h : Src W a len cap g w) (o : Obj) : Src W a len cap g (w.alloc o) := h.keep (below1 o)
theorem Src.drew {W : World} {a : Option Addr} {len cap g : Nat} {w : World} (h : Src W a len cap g w) : Src W a len cap g w.drew := h.keep (Below.refl _ _).drew
theorem Src.keepB {W : World} {a : Option Addr} {len cap g B : Nat} {w w' : World} (h : Src W a len cap g w) (hb : Below B w w') (hg : g < B) (hB : W.heap.size ≤ B) : Src W a len cap g w' := by
  obtain ⟨i, h1, h2⟩ := h.spot
  exact ⟨h.row, h.big, h.low.trans (hb.mono hB), i, h1, (hb.block g hg).trans h2⟩
theorem src_pair {w : World} {g : Nat} {x y : Value} {t : TypeId} (h : w.heap[g]? = some (.cells #[x, y] t (0, 0))) :
    w.cell? ⟨g, 0, none⟩ = some x ∧ w.cell? ⟨g, 1, none⟩ = some y ∧ w.frozen? ⟨g, 0, none⟩ = false ∧ w.frozen? ⟨g, 1, none⟩ = false :=
  ⟨by rw [cell_of_row _ _ _ _ _ _ h]; rfl, by rw [cell_of_row _ _ _ _ _ _ h]; rfl, frozen_of_row _ _ _ _ _ h, frozen_of_row _ _ _ _ _ h⟩
theorem keep_mod (x n : Int) (hn : 1 ≤ n ∧ n ≤ 4611686018427387904) (w : World) :
    Calls Try.prog 19 #[.int .i64 x, .int .i64 n] w fun e w' => e = .returned (.int .i64 (x % n)) ∧ w = w' := by
  obtain ⟨n1, n2⟩ := hn
  have dn : decide (n < 1) = false := by simp; omega
  have hn0 : n ≠ 0 := by omega
  obtain ⟨m, hm⟩ : ∃ m : Int, x.tmod n = m := ⟨_, rfl⟩
  have m1 : -n < m ∧ m < n := by
    rw [← hm]
    constructor
    · have := Int.lt_tmod_of_pos x (b := n) (by omega); omega
    · exact Int.tmod_lt_of_pos x (by omega)
  have he : x % n = if m < 0 then m + n else m := by
    rw [← hm, Int.tmod_eq_emod]
    have h1 := Int.emod_nonneg x hn0
    have h2 := Int.emod_lt_of_pos x (b := n) (by omega)
    split <;> split <;> omega
  obtain ⟨m1, m2⟩ := m1
  have HE := hide he
  clear he
  by_cases hneg : m < 0
  · have dm : decide (m < 0) = true := by simp; omega
    have r := hide (show (if m < 0 then m + n else m) = m + n from if_pos hneg)
    go_enter Try.func19, Try.ntmps19
    go_wp2
    go_ret
    exact ⟨by rw [HE.out, r.out]; rfl, rfl⟩
  · have dm : decide (m < 0) = false := by simp; omega
    have r := hide (show (if m < 0 then m + n else m) = m from if_neg hneg)
    go_enter Try.func19, Try.ntmps19
    go_wp2
    go_ret
    exact ⟨by rw [HE.out, r.out]; rfl, rfl⟩
theorem keep_raw (W : World) (a : Option Addr) (len cap g : Nat) (w : World) (hd : Src W a len cap g w) :
    Calls Try.prog 32 #[.pointer (some ⟨g, 0, none⟩)] w fun e w' => (∃ x : Int, e = .returned (.int .i64 x) ∧ -9223372036854775808 ≤ x ∧ x ≤ 9223372036854775807) ∧ Src W a len cap g w' ∧ Rolls g w w' := by
  have HD := hide hd
  obtain ⟨⟨hl, hrow⟩, big, low, i, hi, hg⟩ := hd
  obtain ⟨c0, c1, f0, f1⟩ := src_pair hg
  by_cases hil : i = len
  · subst hil
    have d : decide ((i : Int) ≤ (i : Int)) = true := by simp
    have k0 := fun p : More => cell_more c0 p
    have k1 := fun p : More => cell_more c1 p
    have G := hide hg
    have L := hide low
    have HR := hide hrow
    clear hg low hrow
    go_enter Try.func32, Try.ntmps32
    go_wp2
    refine wp_region_grown (by kernel_rfl) (by kernel_rfl) ?_
    repeat (go_big_quiet_step (fail))
    refine wpQuiet_nil ?_
    intro w2 hb2
    go_wp2
    go_ret
    exact ⟨⟨0, rfl, by omega, by omega⟩, HD.out.keep hb2, Rolls.of_below hb2⟩
  · rcases hrow with h0 | ⟨b, off, rfl, hrow⟩
    · omega
    · obtain ⟨v, hv, v1, v2⟩ := hrow i (by omega)
      have hv' : w.cell? ⟨b, off + i, none⟩ = some (.int .i64 v) := by
        rw [low.cell (block_lt_of_cell hv)]; exact hv
      have d : decide ((len : Int) ≤ (i : Int)) = false := by simp; omega
      have d' : decide (len ≤ i) = false := by simp; omega
      have k0 := fun p : More => cell_more c0 p
      have k1 := fun p : More => cell_more c1 p
      have hit : i < 9223372036854775807 := by omega
      have hilt : (i : Int) < (len : Int) := by omega
      have G := hide hg
      have L := hide low
      have HR := hide hrow
      have hbg : b ≠ g := by have := block_lt_of_cell hv; simp at this; omega
      clear hg low hrow hv
      go_enter Try.func32, Try.ntmps32
      go_wp2
      refine wp_region_grown (by kernel_rfl) (by kernel_rfl) ?_
      repeat (go_big_quiet_step (fail))
      refine wpQuiet_nil ?_
      intro w2 hb2
      have g2 : w2.heap[g]? = some (.cells #[.slice (some ⟨b, off, none⟩) len cap, .int .i64 i] 68 (0, 0)) := (hb2.block g (Array.getElem?_eq_some_iff.1 G.out).1).trans G.out
      obtain ⟨x0, x1, y0, y1⟩ := src_pair g2
      have xv : w2.cell? ⟨b, off + i, none⟩ = some (.int .i64 v) := by rw [hb2.cell (block_lt_of_cell hv')]; exact hv'
      have G2 := hide g2
      clear c0 c1 f0 f1 hv' g2
      go_wp2
      have G3 := hide (show (w2.setCell ⟨g, 1, none⟩ (.int .i64 ((i : Int) + 1))).heap[g]? = some (.cells #[.slice (some ⟨b, off, none⟩) len cap, .int .i64 ((i : Int) + 1)] 68 (0, 0)) from (setCell_row G2.out _).trans rfl)
      have B3 := hide (show Below W.heap.size W (w2.setCell ⟨g, 1, none⟩ (.int .i64 ((i : Int) + 1))) from (L.out.trans (hb2.mono L.out.size)).setCell (show W.heap.size ≤ g from big) _)
      have R3 := hide (show Rolls g w (w2.setCell ⟨g, 1, none⟩ (.int .i64 ((i : Int) + 1))) from ⟨Nat.le_trans hb2.size (by simp [World.setCell]), fun k hk hg => (Below.heap_setCell _ _ _ _ hg).trans (hb2.block k hk)⟩)
      have X3 := hide (show (w2.setCell ⟨g, 1, none⟩ (.int .i64 ((i : Int) + 1))).cell? ⟨b, off + i, none⟩ = some (.int .i64 v) from by rw [show (w2.setCell ⟨g, 1, none⟩ (.int .i64 ((i : Int) + 1))).cell? ⟨b, off + i, none⟩ = w2.cell? ⟨b, off + i, none⟩ from World.cell?_of_block (Below.heap_setCell _ _ _ _ hbg)]; exact xv)
      clear x0 x1 y0 y1 xv G2 hb2 k0 k1 d d'
      generalize (w2.setCell ⟨g, 1, none⟩ (.int .i64 ((i : Int) + 1))) = w3 at G3 B3 R3 X3 ⊢
      obtain ⟨x0, x1, -, -⟩ := src_pair G3.out
      have xv := X3.out
      have hs1 : (i : Int) + 1 - 1 = (i : Int) := by omega
      go_region
      go_wp2
      go_ret
      exact ⟨⟨v, rfl, v1, v2⟩, (Src.mk ⟨hl, .inr ⟨b, off, rfl, HR.out⟩⟩ big B3.out ⟨i + 1, by omega, G3.out⟩).drew, R3.out.trans (Rolls.of_below (Below.refl _ _).drew)⟩
theorem keep_n (W : World) (a : Option Addr) (len cap g : Nat) (n : Int) (hn : 1 ≤ n ∧ n ≤ 4611686018427387904) (w : World) (hd : Src W a len cap g w) :
    Calls Try.prog 20 #[.pointer (some ⟨g, 0, none⟩), .int .i64 n] w fun e w' => (∃ x : Int, e = .returned (.int .i64 x) ∧ 0 ≤ x ∧ x < n) ∧ Src W a len cap g w' ∧ Rolls g w w' := by
  have Q1 := hide (keep_raw W a len cap g w hd)
  have Q2 := hide (fun x w => keep_mod x n hn w)
  have hn0 : n ≠ 0 := by omega
  have HN := hide hn
  clear hd hn
  go_enter Try.func20, Try.ntmps20
  go_wp2_with (first
    | (go_at_call 32; (with_reducible refine (Q1.out).mono ?_); rintro e w1 ⟨⟨x, rfl, x0, x1⟩, hd1, hr1⟩; (have HD := hide hd1); (have HR := hide hr1); (have Hn := hide (And.intro (Int.emod_nonneg x hn0) (Int.emod_lt_of_pos x (b := n) (by have := HN.out; omega)))); clear hd1 hr1)
    | (go_at_call 19; (with_reducible refine (Q2.out _ _).mono ?_); rintro e w2 ⟨rfl, rfl⟩))
  go_ret
  exact ⟨⟨_, rfl, Hn.out.1, Hn.out.2⟩, HD.out, HR.out⟩
/-- An int of which p holds. -/
def isInt (p : Int → Bool) : Value → Bool
  | .int .i64 x => p x
  | _ => false
theorem isInt_get {p : Int → Bool} {cs : Array Value} (h : cs.toList.all (isInt p) = true) {i : Nat} (hi : i < cs.size) : ∃ x : Int, cs[i]? = some (.int .i64 x) ∧ p x = true := by
  have hv : isInt p cs[i] = true := (List.all_eq_true.1 h) _ (by simp)
  rw [Array.getElem?_eq_getElem hi]
  generalize cs[i] = v at hv
  match v, hv with
  | .int .i64 x, h => exact ⟨x, rfl, h⟩
theorem keep_pick {W : World} {a : Option Addr} {len cap g : Nat} (p : Int → Bool) (cs : Array Value) (n : Nat) (hn : n = cs.size) (hn1 : 1 ≤ n ∧ n ≤ 1000) (hcs : cs.toList.all (isInt p) = true) (X : World) (hd : Src W a len cap g X) {B : Nat} (hB : X.heap.size = B) :
    Calls Try.prog 26 #[.pointer (some ⟨g, 0, none⟩), .slice (some ⟨B, 0, none⟩) n n] (X.alloc (.cells cs 3)) fun e w' => (∃ x : Int, e = .returned (.int .i64 x) ∧ p x = true) ∧ Src W a len cap g w' ∧ Rolls g X w' := by
  have lt := hd.lt
  have hd0 := hd.alloc (.cells cs 3)
  have h0 := heap_alloc_new X (.cells cs 3)
  have hr0 : Rolls g X (X.alloc (.cells cs 3)) := Rolls.of_below (below1 _)
  generalize X.alloc (.cells cs 3) = Y at *
  rw [hB] at h0 lt
  have q := keep_n W a len cap g (n : Int) ⟨by omega, by omega⟩ Y hd0
  have Q := hide q
  obtain ⟨n1, n2⟩ := hn1
  have H0 := hide h0
  have HC := hide hcs
  have HN := hide hn
  clear q hB hd hd0 h0 hcs hn
  have tok := lt
  go_enter Try.func26, Try.ntmps26
  go_wp2_with (first
    | (go_at_call 20; (with_reducible refine (Q.out).mono ?_); rintro e w1 ⟨⟨x, rfl, x0, x1⟩, hd1, hr1⟩;
       (obtain ⟨j, rfl⟩ : ∃ j : Nat, x = (j : Int) := ⟨x.toNat, by omega⟩);
       (have hj : j < n := by omega);
       (obtain ⟨v, hv, hp⟩ := isInt_get HC.out (i := j) (by rw [← HN.out]; exact hj));
       (have g1 := (hr1.block B (Array.getElem?_eq_some_iff.1 H0.out).1 (by omega)).trans H0.out);
       (have c1 : w1.cell? ⟨B, j, none⟩ = some (.int .i64 v) := by rw [cell_of_row _ _ _ _ _ _ g1]; exact hv);
       (have G1 := hide g1; clear g1); (have HV := hide hv; clear hv)))
  go_ret
  exact ⟨⟨v, rfl, hp⟩, hd1, hr0.trans hr1⟩
theorem keep_new (a : Option Addr) (len cap : Nat) (hcap : len ≤ cap ∧ cap ≤ 9223372036854775807) (w : World) (hr : IntRow w a len) :
    ∃ m : Nat, m ≤ 2000 ∧ Calls Try.prog 9 #[.slice a len cap] w fun e w' => e = .returned (.pointer (some ⟨w.heap.size, 0, none⟩)) ∧ Src w a m cap w.heap.size w' := by
  have HR := hide hr
  have hl := hr.1
  obtain ⟨hc1, hc2⟩ := hcap
  clear hr
  by_cases h : len ≤ 2000
  · refine ⟨len, h, ?_⟩
    have d : decide ((len : Int) ≤ 2000) = true := by simp; omega
    have d2 : decide ((2000 : Int) < (len : Int)) = false := by simp; omega
    go_enter Try.func9, Try.ntmps9
    go_wp2
    go_ret
    exact ⟨rfl, HR.out, Nat.le_refl _, below1 _, 0, Nat.zero_le _, heap_alloc_new _ _⟩
  · refine ⟨2000, Nat.le_refl _, ?_⟩
    have d : decide ((len : Int) ≤ 2000) = false := by simp; omega
    have d2 : decide ((2000 : Int) < (len : Int)) = true := by simp; omega
    go_enter Try.func9, Try.ntmps9
    go_wp2
    go_ret
    exact ⟨rfl, HR.out.less (by omega), Nat.le_refl _, below1 _, 0, Nat.zero_le _, heap_alloc_new _ _⟩
end Go.Proofs.Ytlhphhiodckaaaa
