/- The policies that package keep draws. -/
import Derived.Test.YtlhphhiodckaaaaSrc
import Derived.Test.YtlhphhiodckaaaaOwn
import Derived.Test.YtlhphhiodckaaaaReg
import Derived.Deep.RegionLaw
import Derived.Deep.AppendLies
import Derived.Deep.CutRange
import Derived.Deep.LoopGhost
import Derived.Deep.CutBlock
namespace Go.Proofs.Ytlhphhiodckaaaa
open Go.RowKit
set_option linter.unusedVariables false
set_option linter.unusedSimpArgs false
/-- A rule. -/
structure Rl where
  m : Int
  p : Int
  f : Int
  d : Int
def rlVals : List Rl → List Value
  | [] => []
  | r :: L => .int .i64 r.m :: .int .i64 r.p :: .int .i64 r.f :: .int .i64 r.d :: rlVals L
theorem rlVals_append : ∀ L M : List Rl, rlVals (L ++ M) = rlVals L ++ rlVals M
  | [], _ => rfl
  | _ :: L, M => by simp [rlVals, rlVals_append L M]
theorem rlVals_length : ∀ L : List Rl, (rlVals L).length = L.length * 4
  | [] => rfl
  | _ :: L => by simp [rlVals, rlVals_length L]; omega
theorem rlVals_get : ∀ (L : List Rl) (i : Nat) (h : i < L.length), (rlVals L)[i * 4]? = some (.int .i64 L[i].m) ∧ (rlVals L)[i * 4 + 1]? = some (.int .i64 L[i].p) ∧ (rlVals L)[i * 4 + 2]? = some (.int .i64 L[i].f) ∧ (rlVals L)[i * 4 + 3]? = some (.int .i64 L[i].d)
  | [], _, h => by simp at h
  | r :: L, 0, _ => by simp [rlVals]
  | r :: L, i + 1, h => by
    have := rlVals_get L i (by simpa using h)
    simp only [rlVals, show (i + 1) * 4 = i * 4 + 3 + 1 from by omega, List.getElem?_cons_succ, List.getElem_cons_succ]
    exact this
/-- A slice of rules in memory. -/
def RlRow (w : World) (p : Option Addr) (n : Nat) (L : List Rl) : Prop :=
  n = L.length ∧ (n = 0 ∨ ∃ b off : Nat, p = some ⟨b, off, none⟩ ∧ ∀ i (h : i < L.length), w.cell? ⟨b, off + i * 4, none⟩ = some (.int .i64 L[i].m) ∧ w.cell? ⟨b, off + i * 4 + 1, none⟩ = some (.int .i64 L[i].p) ∧ w.cell? ⟨b, off + i * 4 + 2, none⟩ = some (.int .i64 L[i].f) ∧ w.cell? ⟨b, off + i * 4 + 3, none⟩ = some (.int .i64 L[i].d))
theorem RlRow.heap {w w' : World} {p : Option Addr} {n : Nat} {L : List Rl} (h : RlRow w p n L) (hg : ∀ b off, p = some ⟨b, off, none⟩ → b < w.heap.size → n = 0 ∨ w'.heap[b]? = w.heap[b]?) : RlRow w' p n L := by
  obtain ⟨rfl, h | ⟨b, off, rfl, h⟩⟩ := h
  · exact ⟨rfl, .inl h⟩
  · by_cases h0 : L.length = 0
    · exact ⟨rfl, .inl h0⟩
    · rcases hg b off rfl (block_lt_of_cell (h 0 (by omega)).1) with h1 | h1
      · omega
      · refine ⟨rfl, .inr ⟨b, off, rfl, fun i hi => ?_⟩⟩
        obtain ⟨x0, x1, x2, x3⟩ := h i hi
        refine ⟨?_, ?_, ?_, ?_⟩ <;> (simp only [World.cell?, h1]; first | exact x0 | exact x1 | exact x2 | exact x3)
theorem RlRow.keep {w w' : World} {p : Option Addr} {n : Nat} {L : List Rl} (h : RlRow w p n L) (hb : Below w.heap.size w w') : RlRow w' p n L := h.heap fun b off hp hl => .inr (hb.block b hl)
theorem rlRow_own {w : World} {B : Nat} {e : TypeId} {v : Value} {n : Nat} {L : List Rl} (h : Own w B e 4 v n (rlVals L)) (hn : 0 < n) : ∃ g cap, v = .slice (some ⟨g, 0, none⟩) n cap ∧ B ≤ g ∧ n ≤ cap ∧ cap ≤ 9223372036854775807 ∧ RlRow w (some ⟨g, 0, none⟩) n L := by
  have h1 := h
  obtain ⟨hl, h⟩ := h
  rw [rlVals_length] at hl
  have hL : L.length = n := by omega
  rcases h with ⟨rfl, h0⟩ | ⟨g, cap, cur, fr, rfl, hB, hg, hfr, hcap, hm, hcs, hxs⟩
  · omega
  · obtain ⟨_, hc⟩ := h1.cells rfl
    obtain ⟨_, hc⟩ := hc _ rfl
    refine ⟨g, cap, rfl, hB, by first | exact hcap | omega, by first | (simp [maxLen] at hm; omega) | omega, by omega, .inr ⟨g, 0, rfl, fun i hi => ?_⟩⟩
    obtain ⟨x0, x1, x2, x3⟩ := rlVals_get L i hi
    have e : ∀ j, (⟨g, 0, none⟩ : Addr).add j = ⟨g, 0 + j, none⟩ := fun j => by unfold Addr.add; split <;> simp_all
    refine ⟨?_, ?_, ?_, ?_⟩
    · have := hc _ _ x0; rw [e] at this; exact this
    · have := hc _ _ x1; rw [e] at this; simpa [Nat.add_assoc] using this
    · have := hc _ _ x2; rw [e] at this; simpa [Nat.add_assoc] using this
    · have := hc _ _ x3; rw [e] at this; simpa [Nat.add_assoc] using this
/-- The rules that are drawn. -/
def RlOk (r : Rl) : Prop := -100 ≤ r.m ∧ r.m ≤ 299 ∧ 1 ≤ r.p ∧ r.p ≤ 4 ∧ 0 ≤ r.f ∧ r.f ≤ 10000 ∧ 0 ≤ r.d ∧ r.d ≤ 100000

theorem tri_cells {w : World} {g : Nat} {x y z : Value} {t : TypeId} (h : w.heap[g]? = some (.cells #[x, y, z] t (0, 0))) :
    w.cell? ⟨g, 0, none⟩ = some x ∧ w.cell? ⟨g, 1, none⟩ = some y ∧ w.cell? ⟨g, 2, none⟩ = some z ∧ w.frozen? ⟨g, 0, none⟩ = false ∧ w.frozen? ⟨g, 1, none⟩ = false ∧ w.frozen? ⟨g, 2, none⟩ = false :=
  ⟨by rw [cell_of_row _ _ _ _ _ _ h]; rfl, by rw [cell_of_row _ _ _ _ _ _ h]; rfl, by rw [cell_of_row _ _ _ _ _ _ h]; rfl, frozen_of_row _ _ _ _ _ h, frozen_of_row _ _ _ _ _ h, frozen_of_row _ _ _ _ _ h⟩
theorem pair_alloc {w : World} {g : Nat} {c : Obj} (h : w.heap[g]? = some c) (o : Obj) : (w.alloc o).heap[g]? = some c := by
  rw [Below.heap_alloc _ _ _ (Array.getElem?_eq_some_iff.1 h).1]; exact h
theorem info_rule : (Try.prog.info? 26).map (fun i => (i.zero, i.size, i.bytes)) = some (some (.agg #[.int .i64 0, .int .i64 0, .int .i64 0, .int .i64 0]), 4, 32) := by kernel_rfl
/-- What holds in the midst of the statement that draws a rule: L says which operations have come. -/
structure PolC (W : World) (a : Option Addr) (len cap g : Nat) (w : World) (g3 : Nat) (A : List Rl) (v : Value) (di ev : Int) (L : Nat → Bool) (u : Nat → Value) (x : World) : Prop where
  src : Src W a len cap g x
  rol : Rolls g w x
  b2 : x.heap[w.heap.size]? = some (.cells #[.slice none 0 0, .int .i64 0, .int .i64 0] 24 (0, 0))
  b3 : L 18 = false → x.heap[g3]? = some (.cells #[v, .int .i64 di, .int .i64 ev] 24 (0, 0))
  own : L 16 = false → x.ownsRow (g3 + 1) 26 4 v A.length (rlVals A)
  f0 : L 0 = true → u 19 = .pointer (some ⟨g3, 0, none⟩)
  f1 : L 1 = true → u 20 = v
  f2 : L 2 = true → u 21 = .pointer (some ⟨g, 0, none⟩)
  f3 : L 3 = true → ∃ x : Int, u 22 = .int .i64 x ∧ 0 ≤ x ∧ x ≤ 399
  f4 : L 4 = true → ∃ x : Int, u 23 = .int .i64 x ∧ -100 ≤ x ∧ x ≤ 299
  f5 : L 5 = true → u 24 = .pointer (some ⟨g, 0, none⟩)
  f6 : L 6 = true → ∃ x : Int, u 25 = .int .i64 x ∧ 0 ≤ x ∧ x ≤ 3
  f7 : L 7 = true → ∃ x : Int, u 26 = .int .i64 x ∧ 1 ≤ x ∧ x ≤ 4
  f8 : L 8 = true → u 27 = .pointer (some ⟨g, 0, none⟩)
  f9 : L 9 = true → ∃ b : Nat, u 28 = .slice (some ⟨b, 0, none⟩) 4 4 ∧ b ≠ g ∧ (L 10 = false → x.heap[b]? = some (.cells #[.int .i64 0, .int .i64 10, .int .i64 100, .int .i64 10000] 3 (0, 0)))
  f10 : L 10 = true → ∃ x : Int, u 29 = .int .i64 x ∧ 0 ≤ x ∧ x ≤ 10000
  f11 : L 11 = true → u 30 = .pointer (some ⟨g, 0, none⟩)
  f12 : L 12 = true → ∃ b : Nat, u 31 = .slice (some ⟨b, 0, none⟩) 4 4 ∧ b ≠ g ∧ (L 13 = false → x.heap[b]? = some (.cells #[.int .i64 0, .int .i64 500, .int .i64 2000, .int .i64 100000] 3 (0, 0)))
  f13 : L 13 = true → L 10 = true ∧ ∃ x : Int, u 32 = .int .i64 x ∧ 0 ≤ x ∧ x ≤ 100000
  f14 : L 14 = true → ∃ r : Rl, RlOk r ∧ u 33 = .agg #[.int .i64 r.m, .int .i64 r.p, .int .i64 r.f, .int .i64 r.d]
  f15 : L 15 = true → ∃ (r : Rl) (b : Nat), RlOk r ∧ u 34 = .slice (some ⟨b, 0, none⟩) 1 1 ∧ b ≠ g ∧ (L 16 = false → x.heap[b]? = some (.cells #[.int .i64 r.m, .int .i64 r.p, .int .i64 r.f, .int .i64 r.d] 26 (0, 0)))
  f16 : L 16 = true → L 13 = true ∧ L 10 = true ∧ L 1 = true ∧ ∃ r : Rl, RlOk r ∧ x.ownsRow (g3 + 1) 26 4 (u 35) (A.length + 1) (rlVals (A ++ [r]))
  f17 : L 17 = true → u 36 = .pointer (some ⟨g3, 0, none⟩)
  f18 : L 18 = true → L 16 = true ∧ x.heap[g3]? = some (.cells #[u 35, .int .i64 di, .int .i64 ev] 24 (0, 0))
theorem owns_heap {w w' : World} {B : Nat} {e : TypeId} {size : Nat} {v : Value} {n : Nat} {xs : List Value} (h : w.ownsRow B e size v n xs) (hk : ∀ k, B ≤ k → k < w.heap.size → w'.heap[k]? = w.heap[k]?) : w'.ownsRow B e size v n xs := by
  obtain ⟨hl, h | ⟨g, cap, cur, h1, h2, h3, h4⟩⟩ := h
  · exact ⟨hl, .inl h⟩
  · exact ⟨hl, .inr ⟨g, cap, cur, h1, h2, (hk g h2 (Array.getElem?_eq_some_iff.1 h3).1).trans h3, h4⟩⟩
theorem PolC.rolls {W : World} {a : Option Addr} {len cap g : Nat} {w : World} {g3 : Nat} {A : List Rl} {v : Value} {di ev : Int} {L : Nat → Bool} {u : Nat → Value} {x y : World} (h : PolC W a len cap g w g3 A v di ev L u x) (hg : g < w.heap.size) (h3 : w.heap.size < g3) (hd : Src W a len cap g y) (hr : Rolls g x y) : PolC W a len cap g w g3 A v di ev L u y :=
  { h with
    src := hd
    rol := h.rol.trans hr
    b2 := hr.blk h.b2 (by omega)
    b3 := fun e => hr.blk (h.b3 e) (by omega)
    own := fun e => owns_heap (h.own e) fun k h1 h2 => hr.block k h2 (by omega)
    f9 := fun e => by
      obtain ⟨b, h1, h2, h3⟩ := h.f9 e
      exact ⟨b, h1, h2, fun e => hr.blk (h3 e) h2⟩
    f12 := fun e => by
      obtain ⟨b, h1, h2, h3⟩ := h.f12 e
      exact ⟨b, h1, h2, fun e => hr.blk (h3 e) h2⟩
    f15 := fun e => by
      obtain ⟨r, b, h0, h1, h2, h3⟩ := h.f15 e
      exact ⟨r, b, h0, h1, h2, fun e => hr.blk (h3 e) h2⟩
    f16 := fun e => by
      obtain ⟨h0, h1, h1', r, h2, h3⟩ := h.f16 e
      exact ⟨h0, h1, h1', r, h2, owns_heap h3 fun k h1 h2 => hr.block k h2 (by omega)⟩
    f18 := fun e => by
      obtain ⟨h0, h1⟩ := h.f18 e
      exact ⟨h0, hr.blk h1 (by omega)⟩ }
theorem tri_set {w : World} {g : Nat} {x y z : Value} {t : TypeId} (h : w.heap[g]? = some (.cells #[x, y, z] t (0, 0))) (x' y' z' : Value) :
    (((w.setCell ⟨g, 0, none⟩ x').setCell ⟨g, 1, none⟩ y').setCell ⟨g, 2, none⟩ z').heap[g]? = some (.cells #[x', y', z'] t (0, 0)) := by
  rw [setCell_row (setCell_row (setCell_row h _) _) _]; rfl
theorem tri_set_cells {w : World} {g : Nat} {x y z : Value} {t : TypeId} (h : w.heap[g]? = some (.cells #[x, y, z] t (0, 0))) (x' y' z' : Value) :
    (w.setCell ⟨g, 0, none⟩ x').cell? ⟨g, 0, none⟩ = some x' ∧ ((w.setCell ⟨g, 0, none⟩ x').setCell ⟨g, 1, none⟩ y').cell? ⟨g, 1, none⟩ = some y' ∧ (((w.setCell ⟨g, 0, none⟩ x').setCell ⟨g, 1, none⟩ y').setCell ⟨g, 2, none⟩ z').cell? ⟨g, 2, none⟩ = some z' := by
  refine ⟨?_, ?_, ?_⟩
  · rw [cell_of_row _ _ _ _ _ _ (setCell_row h _)]; rfl
  · rw [cell_of_row _ _ _ _ _ _ (setCell_row (setCell_row h _) _)]; rfl
  · rw [cell_of_row _ _ _ _ _ _ (setCell_row (setCell_row (setCell_row h _) _) _)]; rfl
theorem below3 (g : Nat) (w : World) (x y z : Value) : Below g w (((w.setCell ⟨g, 0, none⟩ x).setCell ⟨g, 1, none⟩ y).setCell ⟨g, 2, none⟩ z) :=
  Below.setCell (Below.setCell (Below.setCell (Below.refl g w) (p := ⟨g, 0, none⟩) (Nat.le_refl g) x) (p := ⟨g, 1, none⟩) (Nat.le_refl g) y) (p := ⟨g, 2, none⟩) (Nat.le_refl g) z
theorem heap_set3 {w : World} {g : Nat} (x y z : Value) (k : Nat) (hk : k ≠ g) : (((w.setCell ⟨g, 0, none⟩ x).setCell ⟨g, 1, none⟩ y).setCell ⟨g, 2, none⟩ z).heap[k]? = w.heap[k]? := by
  rw [Below.heap_setCell _ _ _ _ (show k ≠ g from hk), Below.heap_setCell _ _ _ _ (show k ≠ g from hk), Below.heap_setCell _ _ _ _ (show k ≠ g from hk)]
theorem owns_ge {w : World} {B : Nat} {e : TypeId} {size : Nat} {v : Value} {n : Nat} {xs : List Value} (h : w.ownsRow B e size v n xs) : ∀ k, v.ownBlock = some k → B ≤ k := by
  obtain ⟨hl, ⟨rfl, -⟩ | ⟨g, cap, cur, rfl, h2, -⟩⟩ := h
  · intro k hk; simp [Value.ownBlock] at hk
  · intro k hk; simp [Value.ownBlock] at hk; omega
theorem keep_pick2 {W : World} {a : Option Addr} {len cap g : Nat} (p : Int → Bool) (cs : Array Value) (n : Nat) (hn : n = cs.size) (hn1 : 1 ≤ n ∧ n ≤ 1000) (hcs : cs.toList.all (isInt p) = true) (X : World) (hd : Src W a len cap g X) {B : Nat} {t : TypeId} (hB : X.heap[B]? = some (.cells cs t (0, 0))) (hne : B ≠ g) :
    Calls Try.prog 26 #[.pointer (some ⟨g, 0, none⟩), .slice (some ⟨B, 0, none⟩) n n] X fun e w' => (∃ x : Int, e = .returned (.int .i64 x) ∧ p x = true) ∧ Src W a len cap g w' ∧ Rolls g X w' := by
  have Q := hide (keep_n W a len cap g (n : Int) ⟨by omega, by omega⟩ X hd)
  obtain ⟨n1, n2⟩ := hn1
  have H0 := hide hB
  have HC := hide hcs
  have HN := hide hn
  clear hB hd hcs hn
  go_enter Try.func26, Try.ntmps26
  go_wp2_with (first
    | (go_at_call 20; (with_reducible refine (Q.out).mono ?_); rintro e w1 ⟨⟨x, rfl, x0, x1⟩, hd1, hr1⟩;
       (obtain ⟨j, rfl⟩ : ∃ j : Nat, x = (j : Int) := ⟨x.toNat, by omega⟩);
       (have hj : j < n := by omega);
       (obtain ⟨v, hv, hp⟩ := isInt_get HC.out (i := j) (by rw [← HN.out]; exact hj));
       (have g1 := hr1.blk H0.out hne);
       (have c1 : w1.cell? ⟨B, j, none⟩ = some (.int .i64 v) := by rw [cell_of_row _ _ _ _ _ _ g1]; exact hv);
       (have G1 := hide g1; clear g1); (have HV := hide hv; clear hv)))
  go_ret
  exact ⟨⟨v, rfl, hp⟩, hd1, hr1⟩
set_option maxHeartbeats 8000000 in
set_option maxRecDepth 100000 in
theorem keep_policy {W : World} {a : Option Addr} {len cap g : Nat} (w : World) (hd : Src W a len cap g w) :
    Calls Try.prog 10 #[.pointer (some ⟨g, 0, none⟩)] w fun e w' => (∃ (L : List Rl) (di ev : Int) (p : Option Addr) (c : Nat), e = .returned (.agg #[.slice p L.length c, .int .i64 di, .int .i64 ev]) ∧ 1 ≤ L.length ∧ L.length ≤ 3 ∧ (∀ r ∈ L, RlOk r) ∧ (0 ≤ di ∧ di ≤ 1000) ∧ (0 ≤ ev ∧ ev ≤ 500) ∧ RlRow w' p L.length L ∧ L.length ≤ c ∧ c ≤ 9223372036854775807 ∧ ∀ b off, p = some ⟨b, off, none⟩ → w.heap.size ≤ b) ∧ Src W a len cap g w' ∧ Rolls g w w' := by
  obtain ⟨i0, hi0, hz0, hz1, hz2⟩ := info_parts info_rule
  have hgB : g < w.heap.size := hd.lt
  have hWB : W.heap.size ≤ w.heap.size := hd.low.size
  have HD := hide hd
  clear hd
  go_enter Try.func10, Try.ntmps10
  have G2 := hide (heap_alloc_new w (.cells #[.slice none 0 0, .int .i64 0, .int .i64 0] 24))
  have HR := hide (Rolls.of_below (g := g) (below1 (w := w) (.cells #[.slice none 0 0, .int .i64 0, .int .i64 0] 24)))
  go_wp2_with (first
    | (go_at_call 26; (with_reducible refine (keep_pick (W := W) (a := a) (len := len) (cap := cap) (fun x => decide (0 ≤ x ∧ x ≤ 1000)) _ _ ?_ ?_ ?_ _ ?_ ?_).mono ?_); (focus rfl); (focus decide); (focus rfl); (focus exact HD.out.alloc _); (focus simp); rintro e wA ⟨⟨di, rfl, hdi⟩, hd1, hr1⟩; (have HD := hide hd1); (have di0 : 0 ≤ di := by (simp at hdi; omega)); (have di1 : di ≤ 1000 := by (simp at hdi; omega)); (have G2 := hide (hr1.blk G2.out (by omega))); (have HR := hide (HR.out.trans hr1)); (have hgl := (Array.getElem?_eq_some_iff.1 G2.out).1); clear hd1 hr1 hdi)
    | (go_at_call 26; (with_reducible refine (keep_pick (W := W) (a := a) (len := len) (cap := cap) (fun x => decide (0 ≤ x ∧ x ≤ 500)) _ _ ?_ ?_ ?_ _ ?_ ?_).mono ?_); (focus rfl); (focus decide); (focus rfl); (focus exact HD.out); (focus rfl); rintro e w1 ⟨⟨ev, rfl, hev⟩, hd1, hr1⟩; (have HD := hide hd1); (have ev0 : 0 ≤ ev := by (simp at hev; omega)); (have ev1 : ev ≤ 500 := by (simp at hev; omega)); (have G2 := hide (hr1.blk G2.out (by omega))); (have HR := hide (HR.out.trans hr1)); (have hgl := (Array.getElem?_eq_some_iff.1 G2.out).1); clear hd1 hr1 hev)
    | (go_at_call 20; (with_reducible refine (keep_n W a len cap g 3 ?_ _ (HD.out.alloc _)).mono ?_); (focus omega); rintro e w3 ⟨⟨x, rfl, x0, x1⟩, hd1, hr1⟩; (have HD := hide hd1); clear hd1))
  have G3 := hide ((hr1.blk (heap_alloc_new w1 _) (by have := HD.out.lt; omega)) : w3.heap[w1.heap.size]? = some (.cells #[.slice none 0 0, .int .i64 di, .int .i64 ev] 24 (0, 0)))
  have G2 := hide (hr1.blk (pair_alloc G2.out _) (by omega))
  have HR := hide (HR.out.trans ((Rolls.of_below (below1 _)).trans hr1))
  have hg3 : w1.heap.size < w3.heap.size := (Array.getElem?_eq_some_iff.1 G3.out).1
  have hgd1 : g < w1.heap.size := by omega
  clear hr1
  obtain ⟨k0, rfl⟩ : ∃ k0 : Nat, x = (k0 : Int) := ⟨x.toNat, by omega⟩
  obtain ⟨g3, hg3e⟩ : ∃ g3, w1.heap.size = g3 := ⟨_, rfl⟩
  rw [hg3e] at G3 hg3 hgd1 hgl ⊢
  clear hg3e
  go_loopg [4] (1 + k0) (fun gn t4 wr => ∃ (A : List Rl) (k : Nat) (v : Value), gn = k ∧ t4 = .int .i64 k ∧ A.length + k ≤ 3 ∧ 1 ≤ A.length + k ∧ Hid (∀ r ∈ A, RlOk r) ∧ Hid (wr.heap[g3]? = some (.cells #[v, .int .i64 di, .int .i64 ev] 24 (0, 0))) ∧ Hid (wr.heap[w.heap.size]? = some (.cells #[.slice none 0 0, .int .i64 0, .int .i64 0] 24 (0, 0))) ∧ Hid (wr.ownsRow (g3 + 1) 26 4 v A.length (rlVals A)) ∧ Hid (Src W a len cap g wr) ∧ Hid (Rolls g w wr))
  case atStart => exact ⟨[], 1 + k0, .slice none 0 0, rfl, by first | rfl | (congr 1), by simp; omega, by simp, hide (fun r hr => by cases hr), G3, G2, World.ownsRow_nil _ _ _ _, HD, HR⟩
  case round =>
    clear HD HR G2 G3
    obtain ⟨A, k, v, hgn, rfl, hk1, hk2, HOK, G3, G2, HO, HD, HR⟩ := hrel
    by_cases hk : k = 0
    · subst hk
      obtain ⟨gg, cg, rfl, hB, hc1, hc2, hrow⟩ := rlRow_own (Own.of_ownsRow HO.out) (by omega)
      obtain ⟨c0, c1, c2, -, -, -⟩ := tri_cells G3.out
      obtain ⟨r0, r1, r2, f0, f1, f2⟩ := tri_cells G2.out
      obtain ⟨m0, m1, m2⟩ := tri_set_cells G2.out (.slice (some ⟨gg, 0, none⟩) A.length cg) (.int .i64 di) (.int .i64 ev)
      obtain ⟨z0, z1, z2, -, -, -⟩ := tri_cells (tri_set G2.out (.slice (some ⟨gg, 0, none⟩) A.length cg) (.int .i64 di) (.int .i64 ev))
      have HROW := hide hrow
      have hbl := below3 w.heap.size wr (.slice (some ⟨gg, 0, none⟩) A.length cg) (.int .i64 di) (.int .i64 ev)
      have hh := heap_set3 (w := wr) (g := w.heap.size) (.slice (some ⟨gg, 0, none⟩) A.length cg) (.int .i64 di) (.int .i64 ev)
      have HBL := hide hbl
      have HH := hide hh
      clear hrow hbl hh
      go_wp2
      (try simp only [Exit.inBlock, Exit.then])
      refine bodyPost_ret (v := .agg #[.slice (some ⟨gg, 0, none⟩) A.length cg, .int .i64 di, .int .i64 ev]) (by simp [results, Try.results10, go_sem, z0, z1, z2]) rfl ⟨⟨A, di, ev, _, _, rfl, by omega, by omega, HOK.out, by omega, by omega, HROW.out.heap fun b off hp hl => .inr (HH.out b ?_), hc1, hc2, ?_⟩, HD.out.keepB HBL.out (by omega) (by omega), ⟨Nat.le_trans HR.out.size HBL.out.size, fun k hk hg => (HBL.out.block k (by omega)).trans (HR.out.block k hk hg)⟩⟩
      · injection hp with e1; injection e1 with e1 e2; omega
      · intro b off hp; injection hp with e1; injection e1 with e1 e2; omega
    · have dk : decide ((0 : Int) < (k : Int)) = true := by simp; omega
      have dk' : decide (0 < k) = true := by simp; omega
      go_upto_block 1 with fail
      go_cut [4] from 15 to 36 (fun t4 wx => t4 = .int .i64 k ∧ ∃ (r : Rl) (v' : Value), RlOk r ∧ Hid (wx.heap[g3]? = some (.cells #[v', .int .i64 di, .int .i64 ev] 24 (0, 0))) ∧ Hid (wx.heap[w.heap.size]? = some (.cells #[.slice none 0 0, .int .i64 0, .int .i64 0] 24 (0, 0))) ∧ Hid (wx.ownsRow (g3 + 1) 26 4 v' (A.length + 1) (rlVals (A ++ [r]))) ∧ Hid (Src W a len cap g wx) ∧ Hid (Rolls g w wx))
      case first =>
        go_upto_region 5 with fail
        refine wp_region_inv (fun L a' w' => ∃ u : Nat → Value, a' = { tmps := #[.pointer (some ⟨g, 0, none⟩), undef, .pointer (some ⟨w.heap.size, 0, none⟩), .pointer (some ⟨g3, 0, none⟩), .int .i64 k, .pointer (some ⟨g, 0, none⟩), .slice (some ⟨w.heap.size + 1, 0, none⟩) 4 4, .int .i64 di, .pointer (some ⟨g, 0, none⟩), .slice (some ⟨wA.heap.size, 0, none⟩) 4 4, .int .i64 ev, .agg #[.slice none 0 0, .int .i64 di, .int .i64 ev], .pointer (some ⟨g, 0, none⟩), .int .i64 k0, .int .i64 (1 + (k0 : Int)), .int .i64 k, .bool true, u17, u18, u 19, u 20, u 21, u 22, u 23, u 24, u 25, u 26, u 27, u 28, u 29, u 30, u 31, u 32, u 33, u 34, u 35, u 36, undef], defers := [] } ∧ PolC W a len cap g w g3 A v di ev L u w') (by kernel_rfl) (by kernel_rfl) ?h0 ?hs ?hd
        case h0 =>
          exact ⟨fun s => if s = 19 then u19 else if s = 20 then u20 else if s = 21 then u21 else if s = 22 then u22 else if s = 23 then u23 else if s = 24 then u24 else if s = 25 then u25 else if s = 26 then u26 else if s = 27 then u27 else if s = 28 then u28 else if s = 29 then u29 else if s = 30 then u30 else if s = 31 then u31 else if s = 32 then u32 else if s = 33 then u33 else if s = 34 then u34 else if s = 35 then u35 else u36, rfl, { src := HD.out.drew, rol := HR.out.trans (Rolls.of_below (Below.refl _ _).drew), b2 := G2.out, b3 := fun _ => G3.out, own := fun _ => HO.out, f0 := fun e => Bool.noConfusion e, f1 := fun e => Bool.noConfusion e, f2 := fun e => Bool.noConfusion e, f3 := fun e => Bool.noConfusion e, f4 := fun e => Bool.noConfusion e, f5 := fun e => Bool.noConfusion e, f6 := fun e => Bool.noConfusion e, f7 := fun e => Bool.noConfusion e, f8 := fun e => Bool.noConfusion e, f9 := fun e => Bool.noConfusion e, f10 := fun e => Bool.noConfusion e, f11 := fun e => Bool.noConfusion e, f12 := fun e => Bool.noConfusion e, f13 := fun e => Bool.noConfusion e, f14 := fun e => Bool.noConfusion e, f15 := fun e => Bool.noConfusion e, f16 := fun e => Bool.noConfusion e, f17 := fun e => Bool.noConfusion e, f18 := fun e => Bool.noConfusion e }⟩
        case hs =>
          refine (Steps.cons ?_ (Steps.cons ?_ (Steps.cons ?_ (Steps.cons ?_ (Steps.cons ?_ (Steps.cons ?_ (Steps.cons ?_ (Steps.cons ?_ (Steps.cons ?_ (Steps.cons ?_ (Steps.cons ?_ (Steps.cons ?_ (Steps.cons ?_ (Steps.cons ?_ (Steps.cons ?_ (Steps.cons ?_ (Steps.cons ?_ (Steps.cons ?_ (Steps.cons ?_ Steps.nil)))))))))))))))))))
          · intro L a' x hL hc hI K' hK
            obtain ⟨u, rfl, hC⟩ := hI
            have HK := hide hK
            have HC := hide hC
            clear hK hC hc
            go_simp
            exact HK.out _ _ ⟨fun s => if s = 19 then .pointer (some ⟨g3, 0, none⟩) else u s, rfl, { HC.out with f0 := fun _ => rfl }⟩
          · intro L a' x hL hc hI K' hK
            obtain ⟨u, rfl, hC⟩ := hI
            have d0 : L 0 = true := hc ⟨0, .data⟩ (by simp) rfl
            have HK := hide hK
            have HC := hide hC
            clear hK hC hc
            have h18 : L 18 = false := by
              cases h : L 18
              · rfl
              · have := (HC.out.f16 (HC.out.f18 h).1).2.2.1; rw [hL] at this; cases this
            obtain ⟨m0, -, -, -, -, -⟩ := tri_cells (HC.out.b3 h18)
            have e19 := HC.out.f0 d0
            go_simp
            exact HK.out _ _ ⟨fun s => if s = 20 then v else u s, by simp [e19], { HC.out with f1 := fun _ => rfl, f16 := fun e => by { obtain ⟨h0, h1, -, h3⟩ := HC.out.f16 e; exact ⟨h0, h1, rfl, h3⟩ } }⟩
          · intro L a' x hL hc hI K' hK
            obtain ⟨u, rfl, hC⟩ := hI
            have HK := hide hK
            have HC := hide hC
            clear hK hC hc
            go_simp
            exact HK.out _ _ ⟨fun s => if s = 21 then .pointer (some ⟨g, 0, none⟩) else u s, rfl, { HC.out with f2 := fun _ => rfl }⟩
          · intro L a' x hL hc hI K' hK
            obtain ⟨u, rfl, hC⟩ := hI
            have d2 : L 2 = true := hc ⟨2, .data⟩ (by simp) rfl
            have HK := hide hK
            have HC := hide hC
            clear hK hC hc
            have e21 := HC.out.f2 d2
            go_simp
            go_at_call 20
            refine (keep_n W a len cap g 400 ⟨by omega, by omega⟩ x HC.out.src).mono ?_
            rintro e y ⟨⟨z, rfl, z0, z1⟩, hd1, hr1⟩
            exact HK.out _ _ ⟨fun s => if s = 22 then .int .i64 z else u s, by simp [e21], { (HC.out.rolls hgB hgl hd1 hr1) with f3 := fun _ => ⟨z, rfl, z0, by omega⟩ }⟩
          · intro L a' x hL hc hI K' hK
            obtain ⟨u, rfl, hC⟩ := hI
            have d3 : L 3 = true := hc ⟨3, .data⟩ (by simp) rfl
            have HK := hide hK
            have HC := hide hC
            clear hK hC hc
            obtain ⟨z, e22, z0, z1⟩ := HC.out.f3 d3
            have hw : IntKind.i64.wrap (z - 100) = z - 100 := by rw [IntKind.wrap_i64]; omega
            go_simp
            exact HK.out _ _ ⟨fun s => if s = 23 then .int .i64 (z - 100) else u s, by simp [e22, hw], { HC.out with f4 := fun _ => ⟨z - 100, rfl, by omega, by omega⟩ }⟩
          · intro L a' x hL hc hI K' hK
            obtain ⟨u, rfl, hC⟩ := hI
            have HK := hide hK
            have HC := hide hC
            clear hK hC hc
            go_simp
            exact HK.out _ _ ⟨fun s => if s = 24 then .pointer (some ⟨g, 0, none⟩) else u s, rfl, { HC.out with f5 := fun _ => rfl }⟩
          · intro L a' x hL hc hI K' hK
            obtain ⟨u, rfl, hC⟩ := hI
            have d5 : L 5 = true := hc ⟨5, .data⟩ (by simp) rfl
            have d3 : L 3 = true := hc ⟨3, .chain⟩ (by simp) rfl
            have HK := hide hK
            have HC := hide hC
            clear hK hC hc
            have e24 := HC.out.f5 d5
            go_simp
            go_at_call 20
            refine (keep_n W a len cap g 4 ⟨by omega, by omega⟩ x HC.out.src).mono ?_
            rintro e y ⟨⟨z, rfl, z0, z1⟩, hd1, hr1⟩
            exact HK.out _ _ ⟨fun s => if s = 25 then .int .i64 z else u s, by simp [e24], { (HC.out.rolls hgB hgl hd1 hr1) with f6 := fun _ => ⟨z, rfl, z0, by omega⟩ }⟩
          · intro L a' x hL hc hI K' hK
            obtain ⟨u, rfl, hC⟩ := hI
            have d6 : L 6 = true := hc ⟨6, .data⟩ (by simp) rfl
            have HK := hide hK
            have HC := hide hC
            clear hK hC hc
            obtain ⟨z, e25, z0, z1⟩ := HC.out.f6 d6
            have hw : IntKind.i64.wrap (1 + z) = 1 + z := by rw [IntKind.wrap_i64]; omega
            go_simp
            exact HK.out _ _ ⟨fun s => if s = 26 then .int .i64 (1 + z) else u s, by simp [e25, hw], { HC.out with f7 := fun _ => ⟨1 + z, rfl, by omega, by omega⟩ }⟩
          · intro L a' x hL hc hI K' hK
            obtain ⟨u, rfl, hC⟩ := hI
            have HK := hide hK
            have HC := hide hC
            clear hK hC hc
            go_simp
            exact HK.out _ _ ⟨fun s => if s = 27 then .pointer (some ⟨g, 0, none⟩) else u s, rfl, { HC.out with f8 := fun _ => rfl }⟩
          · intro L a' x hL hc hI K' hK
            obtain ⟨u, rfl, hC⟩ := hI
            have HK := hide hK
            have HC := hide hC
            clear hK hC hc
            have hlt := HC.out.src.lt
            go_simp
            exact HK.out _ _ ⟨fun s => if s = 28 then .slice (some ⟨x.heap.size, 0, none⟩) 4 4 else u s, rfl, { (HC.out.rolls hgB hgl (HC.out.src.alloc _) (Rolls.of_below (below1 _))) with f9 := fun _ => ⟨x.heap.size, rfl, by omega, fun _ => heap_alloc_new _ _⟩ }⟩
          · intro L a' x hL hc hI K' hK
            obtain ⟨u, rfl, hC⟩ := hI
            have d8 : L 8 = true := hc ⟨8, .data⟩ (by simp) rfl
            have d9 : L 9 = true := hc ⟨9, .data⟩ (by simp) rfl
            have d6 : L 6 = true := hc ⟨6, .chain⟩ (by simp) rfl
            have HK := hide hK
            have HC := hide hC
            clear hK hC hc
            have e27 := HC.out.f8 d8
            obtain ⟨b, e28, hbg, hb⟩ := HC.out.f9 d9
            have hb := hide (hb hL)
            go_simp
            go_at_call 26
            refine (keep_pick2 (fun x => decide (0 ≤ x ∧ x ≤ 10000)) _ 4 rfl (by omega) rfl x HC.out.src hb.out hbg).mono ?_
            rintro e y ⟨⟨z, rfl, hz⟩, hd1, hr1⟩
            have z0 : 0 ≤ z ∧ z ≤ 10000 := by simpa using hz
            obtain ⟨z0, z1⟩ := z0
            exact HK.out _ _ ⟨fun s => if s = 29 then .int .i64 z else u s, by simp [e27, e28], { (HC.out.rolls hgB hgl hd1 hr1) with f10 := fun _ => ⟨z, rfl, z0, z1⟩, f9 := fun e => ⟨b, e28, hbg, fun e => Bool.noConfusion e⟩, f13 := fun e => ⟨rfl, ((HC.out.rolls hgB hgl hd1 hr1).f13 e).2⟩, f16 := fun e => by { obtain ⟨h0, -, h2, h3⟩ := (HC.out.rolls hgB hgl hd1 hr1).f16 e; exact ⟨h0, rfl, h2, h3⟩ } }⟩
          · intro L a' x hL hc hI K' hK
            obtain ⟨u, rfl, hC⟩ := hI
            have HK := hide hK
            have HC := hide hC
            clear hK hC hc
            go_simp
            exact HK.out _ _ ⟨fun s => if s = 30 then .pointer (some ⟨g, 0, none⟩) else u s, rfl, { HC.out with f11 := fun _ => rfl }⟩
          · intro L a' x hL hc hI K' hK
            obtain ⟨u, rfl, hC⟩ := hI
            have HK := hide hK
            have HC := hide hC
            clear hK hC hc
            have hlt := HC.out.src.lt
            go_simp
            exact HK.out _ _ ⟨fun s => if s = 31 then .slice (some ⟨x.heap.size, 0, none⟩) 4 4 else u s, rfl, { (HC.out.rolls hgB hgl (HC.out.src.alloc _) (Rolls.of_below (below1 _))) with f12 := fun _ => ⟨x.heap.size, rfl, by omega, fun _ => heap_alloc_new _ _⟩ }⟩
          · intro L a' x hL hc hI K' hK
            obtain ⟨u, rfl, hC⟩ := hI
            have d11 : L 11 = true := hc ⟨11, .data⟩ (by simp) rfl
            have d12 : L 12 = true := hc ⟨12, .data⟩ (by simp) rfl
            have d10 : L 10 = true := hc ⟨10, .chain⟩ (by simp) rfl
            have HK := hide hK
            have HC := hide hC
            clear hK hC hc
            have e30 := HC.out.f11 d11
            obtain ⟨b, e31, hbg, hb⟩ := HC.out.f12 d12
            have hb := hide (hb hL)
            go_simp
            go_at_call 26
            refine (keep_pick2 (fun x => decide (0 ≤ x ∧ x ≤ 100000)) _ 4 rfl (by omega) rfl x HC.out.src hb.out hbg).mono ?_
            rintro e y ⟨⟨z, rfl, hz⟩, hd1, hr1⟩
            have z0 : 0 ≤ z ∧ z ≤ 100000 := by simpa using hz
            obtain ⟨z0, z1⟩ := z0
            exact HK.out _ _ ⟨fun s => if s = 32 then .int .i64 z else u s, by simp [e30, e31], { (HC.out.rolls hgB hgl hd1 hr1) with f13 := fun _ => ⟨d10, z, rfl, z0, z1⟩, f12 := fun e => ⟨b, e31, hbg, fun e => Bool.noConfusion e⟩, f16 := fun e => by { obtain ⟨-, h1, h2, h3⟩ := (HC.out.rolls hgB hgl hd1 hr1).f16 e; exact ⟨rfl, h1, h2, h3⟩ } }⟩
          · intro L a' x hL hc hI K' hK
            obtain ⟨u, rfl, hC⟩ := hI
            have d4 : L 4 = true := hc ⟨4, .data⟩ (by simp) rfl
            have d7 : L 7 = true := hc ⟨7, .data⟩ (by simp) rfl
            have d10 : L 10 = true := hc ⟨10, .data⟩ (by simp) rfl
            have d13 : L 13 = true := hc ⟨13, .data⟩ (by simp) rfl
            have HK := hide hK
            have HC := hide hC
            clear hK hC hc
            obtain ⟨z4, e23, p0, p1⟩ := HC.out.f4 d4
            obtain ⟨z7, e26, p2, p3⟩ := HC.out.f7 d7
            obtain ⟨z10, e29, p4, p5⟩ := HC.out.f10 d10
            obtain ⟨-, z13, e32, p6, p7⟩ := HC.out.f13 d13
            go_simp
            exact HK.out _ _ ⟨fun s => if s = 33 then .agg #[.int .i64 z4, .int .i64 z7, .int .i64 z10, .int .i64 z13] else u s, by simp [e23, e26, e29, e32], { HC.out with f14 := fun _ => ⟨⟨z4, z7, z10, z13⟩, ⟨p0, p1, p2, p3, p4, p5, p6, p7⟩, rfl⟩ }⟩
          · intro L a' x hL hc hI K' hK
            obtain ⟨u, rfl, hC⟩ := hI
            have d14 : L 14 = true := hc ⟨14, .data⟩ (by simp) rfl
            have HK := hide hK
            have HC := hide hC
            clear hK hC hc
            obtain ⟨r, hr, e33⟩ := HC.out.f14 d14
            have hlt := HC.out.src.lt
            go_simp
            exact HK.out _ _ ⟨fun s => if s = 34 then .slice (some ⟨x.heap.size, 0, none⟩) 1 1 else u s, by simp [e33], { (HC.out.rolls hgB hgl (HC.out.src.alloc _) (Rolls.of_below (below1 _))) with f15 := fun _ => ⟨r, x.heap.size, hr, rfl, by omega, fun _ => heap_alloc_new _ _⟩ }⟩
          · intro L a' x hL hc hI K' hK
            obtain ⟨u, rfl, hC⟩ := hI
            have d1 : L 1 = true := hc ⟨1, .data⟩ (by simp) rfl
            have d15 : L 15 = true := hc ⟨15, .data⟩ (by simp) rfl
            have d13 : L 13 = true := hc ⟨13, .chain⟩ (by simp) rfl
            have HK := hide hK
            have HC := hide hC
            clear hK hC hc
            have e20 := HC.out.f1 d1
            obtain ⟨r, b, hr, e34, hbg, hb⟩ := HC.out.f15 d15
            have d10 := (HC.out.f13 d13).1
            have h18 : L 18 = false := by
              cases h : L 18
              · rfl
              · have := (HC.out.f18 h).1; rw [hL] at this; cases this
            have hg3x := (Array.getElem?_eq_some_iff.1 (HC.out.b3 h18)).1
            have hge := owns_ge (HC.out.own hL)
            refine step_append_lies x (by rfl) (.tmp 20) (.tmp 34) 22 (by rfl) (g3 + 1) 26 i0 _ 4 32 Try.underlying22 hi0 hz0 hz1 hz2 rfl (by decide) v A.length (rlVals A) e20 (HC.out.own hL) ⟨b, 0, none⟩ 1 1 [.int .i64 r.m, .int .i64 r.p, .int .i64 r.f, .int .i64 r.d] e34 rfl (World.news_of_block (hb hL)) (by simp [Value.oneCell']) (by omega) (by unfold maxLen; omega) (by omega) (by omega) _ rfl ?_
            intro gg cg y hown hgrow hat hlt
            have hbl : Below (g3 + 1) x y := (Below.refl _ x).grown hgrow (by omega) hge
            have hown2 : y.ownsRow (g3 + 1) 26 4 (.slice (some ⟨gg, 0, none⟩) (A.length + 1) cg) (A.length + 1) (rlVals (A ++ [r])) := by rw [rlVals_append]; exact hown
            exact HK.out _ _ ⟨fun s => if s = 35 then .slice (some ⟨gg, 0, none⟩) (A.length + 1) cg else u s, rfl, { HC.out with f16 := fun _ => ⟨d13, d10, d1, r, hr, hown2⟩, src := HC.out.src.keepB hbl (by omega) (by omega), rol := ⟨Nat.le_trans HC.out.rol.size hbl.size, fun k hk hg => (hbl.block k (by omega)).trans (HC.out.rol.block k hk hg)⟩, b2 := (hbl.block _ (by omega)).trans HC.out.b2, b3 := fun e => (hbl.block g3 (by omega)).trans (HC.out.b3 e), own := fun e => Bool.noConfusion e, f9 := fun e => by { obtain ⟨b, h1, h2, -⟩ := HC.out.f9 e; exact ⟨b, h1, h2, fun e => Bool.noConfusion (e.symm.trans d10)⟩ }, f12 := fun e => by { obtain ⟨b, h1, h2, -⟩ := HC.out.f12 e; exact ⟨b, h1, h2, fun e => Bool.noConfusion (e.symm.trans d13)⟩ }, f15 := fun e => ⟨r, b, hr, e34, hbg, fun e => Bool.noConfusion e⟩, f18 := fun e => Bool.noConfusion (h18.symm.trans e) }⟩
          · intro L a' x hL hc hI K' hK
            obtain ⟨u, rfl, hC⟩ := hI
            have HK := hide hK
            have HC := hide hC
            clear hK hC hc
            go_simp
            exact HK.out _ _ ⟨fun s => if s = 36 then .pointer (some ⟨g3, 0, none⟩) else u s, rfl, { HC.out with f17 := fun _ => rfl }⟩
          · intro L a' x hL hc hI K' hK
            obtain ⟨u, rfl, hC⟩ := hI
            have d17 : L 17 = true := hc ⟨17, .data⟩ (by simp) rfl
            have d16 : L 16 = true := hc ⟨16, .data⟩ (by simp) rfl
            have HK := hide hK
            have HC := hide hC
            clear hK hC hc
            have e36 := HC.out.f17 d17
            obtain ⟨d13, d10, d1, r, hr, hown⟩ := HC.out.f16 d16
            obtain ⟨gg, cg, e35, hgg, -⟩ := hown.form (by omega)
            have hown := hide hown
            obtain ⟨c0, c1, c2, fz0, fz1, fz2⟩ := tri_cells (HC.out.b3 hL)
            have hbl : Below g3 x (x.setCell ⟨g3, 0, none⟩ (.slice (some ⟨gg, 0, none⟩) (A.length + 1) cg)) := Below.setCell (Below.refl g3 x) (Nat.le_refl g3) _
            have HBL := hide hbl
            clear hbl
            go_simp
            exact HK.out _ _ ⟨u, by simp [e36, e35], { HC.out with src := HC.out.src.keepB HBL.out (by omega) (by omega), rol := ⟨Nat.le_trans HC.out.rol.size HBL.out.size, fun k hk hg => (HBL.out.block k (by omega)).trans (HC.out.rol.block k hk hg)⟩, b2 := (HBL.out.block _ (by omega)).trans HC.out.b2, b3 := fun e => Bool.noConfusion e, own := fun e => Bool.noConfusion (e.symm.trans d16), f9 := fun e => by { obtain ⟨b, h1, h2, -⟩ := HC.out.f9 e; exact ⟨b, h1, h2, fun e => Bool.noConfusion (e.symm.trans d10)⟩ }, f12 := fun e => by { obtain ⟨b, h1, h2, -⟩ := HC.out.f12 e; exact ⟨b, h1, h2, fun e => Bool.noConfusion (e.symm.trans d13)⟩ }, f15 := fun e => by { obtain ⟨r, b, h0, h1, h2, -⟩ := HC.out.f15 e; exact ⟨r, b, h0, h1, h2, fun e => Bool.noConfusion (e.symm.trans d16)⟩ }, f16 := fun _ => ⟨d13, d10, d1, r, hr, owns_heap hown.out fun k hk _ => Below.heap_setCell _ _ _ _ (show k ≠ g3 by omega)⟩, f18 := fun _ => ⟨d16, by rw [e35]; exact (setCell_row (HC.out.b3 hL) _).trans rfl⟩ }⟩
        case hd =>
          rintro L a' x hall ⟨u, rfl, hC⟩
          have HC := hide hC
          obtain ⟨-, -, -, r, hr, hown⟩ := hC.f16 (hall 16 (by decide))
          have g3n := (hC.f18 (hall 18 (by decide))).2
          clear hC hall
          go_wp2_with fail
          go_meet
          exact ⟨rfl, r, u 35, hr, g3n, HC.out.b2, hown, HC.out.src, HC.out.rol⟩
      case rest =>
        obtain ⟨rfl, r, v', hr, G3, G2, HO, HD, HR⟩ := hcut
        have hkt : ((k : Int) - 1) = ((k - 1 : Nat) : Int) := by omega
        go_wp2
        go_roundg (k - 1)
        case measure => omega
        case rel =>
          exact ⟨A ++ [r], k - 1, v', rfl, by go_num, by simp; omega, by simp; omega, hide (fun r' hr' => by rcases List.mem_append.1 hr' with h | h; exact HOK.out r' h; simp at h; subst h; exact hr), G3, G2, hide (by simpa using HO.out), HD, HR⟩
end Go.Proofs.Ytlhphhiodckaaaa
