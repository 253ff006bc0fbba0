/- Slices that a call builds by append: owned rows whose block may bear a mark behind its end (as those of a string's bytes do). -/
import Derived.Test.YtlhphhiodckaaaaLib
namespace Go.Proofs.Ytlhphhiodckaaaa
open Go.RowKit

/-- No cell of a block is frozen: no mark, or a mark behind the end. -/
def Free (fr : Nat × Nat) (n : Nat) : Prop := fr = (0, 0) ∨ n ≤ fr.1
theorem frozen_free {w : World} {g j : Nat} {cs : Array Value} {t : TypeId} {fr : Nat × Nat} (hg : w.heap[g]? = some (.cells cs t fr)) (hf : Free fr cs.size) (hj : j < cs.size) : w.frozen? ⟨g, j, none⟩ = false := by
  rcases hf with rfl | h
  · simp [World.frozen?, hg]
  · simp [World.frozen?, hg]; omega
theorem storeCells_free {P : Program} (g o : Nat) (t : TypeId) (fr : Nat × Nat) : ∀ (vs : List Value) (i : Nat) (cur : Array Value) (w : World), w.heap[g]? = some (.cells cur t fr) → Free fr cur.size → o + i + vs.length ≤ cur.size → (∀ v ∈ vs, v.oneCell' = true) →
    (storeCells ⟨g, o, none⟩ vs i).run P w = .ok () (w.setRow g (cur.toList.take (o + i) ++ vs ++ cur.toList.drop (o + i + vs.length)).toArray)
  | [], i, cur, w, hg, _, _, _ => by
    simp only [storeCells, List.append_nil, List.length_nil, Nat.add_zero, List.take_append_drop, Array.toArray_toList]
    rw [setRow_self w g cur t fr hg]
    rfl
  | v :: rest, i, cur, w, hg, hfr, hl, h1 => by
    have hi : o + i < cur.size := by simp at hl; omega
    have hadd : (⟨g, o, none⟩ : Addr).add i = ⟨g, o + i, none⟩ := by unfold Addr.add; split <;> simp_all
    have hcell : w.cell? ⟨g, o + i, none⟩ = some cur[o + i] := by simp [World.cell?, hg, hi]
    have hfro : w.frozen? ⟨g, o + i, none⟩ = false := frozen_free hg hfr hi
    have hst : (store ((⟨g, o, none⟩ : Addr).add i) v).run P w = .ok () (w.setRow g (cur.setIfInBounds (o + i) v)) := by
      rw [hadd, run_store P w _ v _ (h1 v (by simp)), hcell]
      simp [hfro, setCell_eq_setRow w g (o + i) cur t fr v hg]
    have ih := storeCells_free (P := P) g o t fr rest (i + 1) (cur.setIfInBounds (o + i) v) (w.setRow g (cur.setIfInBounds (o + i) v)) (setRow_heap w g cur _ t _ hg) (by simpa using hfr) (by simp at hl ⊢; omega) (fun x hx => h1 x (by simp [hx]))
    simp only [storeCells, Sem.run_bind, hst, Result.andThen_ok, ih, setRow_setRow]
    congr 3
    have e := list_seg_step cur.toList (o + i) v rest (by simp at hl ⊢; omega)
    simpa [Array.toList_setIfInBounds, Nat.add_assoc] using e

/-- A slice that the call made itself: nil, or at the head of a block from B on. -/
def Own (w : World) (B : Nat) (e : TypeId) (size : Nat) (v : Value) (n : Nat) (xs : List Value) : Prop :=
  xs.length = n * size ∧
  ((v = .slice none 0 0 ∧ n = 0) ∨
   ∃ g cap cur fr, v = .slice (some ⟨g, 0, none⟩) n cap ∧ B ≤ g ∧ w.heap[g]? = some (.cells cur e fr) ∧ Free fr cur.size ∧ n ≤ cap ∧ cap ≤ maxLen ∧ cur.size = cap * size ∧ cur.toList.take (n * size) = xs)

section
variable {P : Program} {w w' : World} {B : Nat} {e : TypeId} {size : Nat} {v : Value} {n : Nat} {xs : List Value}
theorem Own.nil (w : World) (B : Nat) (e : TypeId) (size : Nat) : Own w B e size (.slice none 0 0) 0 [] := ⟨by simp, .inl ⟨rfl, rfl⟩⟩
theorem Own.of_ownsRow (h : w.ownsRow B e size v n xs) : Own w B e size v n xs := by
  obtain ⟨hl, h⟩ := h
  rcases h with h | ⟨g, cap, cur, h1, h2, h3, h4, h5, h6, h7⟩
  · exact ⟨hl, .inl h⟩
  · exact ⟨hl, .inr ⟨g, cap, cur, (0, 0), h1, h2, h3, .inl rfl, h4, h5, h6, h7⟩⟩
/-- What '[]byte(s)' hands back. -/
theorem Own.bytes {g cap : Nat} {s : ByteArray} (hg : w.heap[g]? = some (.cells (bytesRow s cap) e (cap, cap + 1))) (hB : B ≤ g) (hc : s.size ≤ cap) (hm : cap ≤ maxLen) :
    Own w B e 1 (.slice (some ⟨g, 0, none⟩) s.size cap) s.size (s.data.toList.map fun b => .int .u8 (b.toNat : Int)) := by
  have hsz : (bytesRow s cap).size = cap := by rw [bytesRow_eq]; exact brow_size (by simpa using hc)
  refine ⟨by simp, .inr ⟨g, cap, _, _, rfl, hB, hg, .inr (by simp [hsz]), hc, hm, by simp [hsz], ?_⟩⟩
  have : s.data.toList.length = s.size := by simp
  rw [bytesRow_eq]
  simp only [brow, Array.toList_append, Nat.mul_one]
  rw [List.take_append_of_le_length (by simp)]
  rw [List.take_of_length_le (by simp)]
/-- What is there stays. -/
theorem Own.keep (h : Own w B e size v n xs) (hb : Below w.heap.size w w') : Own w' B e size v n xs := by
  obtain ⟨hl, h⟩ := h
  rcases h with h | ⟨g, cap, cur, fr, h1, h2, h3, h4, h5, h6, h7, h8⟩
  · exact ⟨hl, .inl h⟩
  · have hlt : g < w.heap.size := (Array.getElem?_eq_some_iff.1 h3).1
    exact ⟨hl, .inr ⟨g, cap, cur, fr, h1, h2, (hb.block g hlt).trans h3, h4, h5, h6, h7, h8⟩⟩
theorem Own.alloc (h : Own w B e size v n xs) (o : Obj) : Own (w.alloc o) B e size v n xs := h.keep (below1 o)
theorem Own.drew (h : Own w B e size v n xs) : Own w.drew B e size v n xs := h
theorem Own.more_base {B' : Nat} (h : Own w B e size v n xs) (hB : B' ≤ B) : Own w B' e size v n xs := by
  obtain ⟨hl, h⟩ := h
  rcases h with h | ⟨g, cap, cur, fr, h1, h2, h3⟩
  · exact ⟨hl, .inl h⟩
  · exact ⟨hl, .inr ⟨g, cap, cur, fr, h1, by omega, h3⟩⟩
/-- The cells of an owned row. -/
theorem Own.cells {A : Option Addr} {n' cap : Nat} (h : Own w B e size v n xs) (hv : v = .slice A n' cap) : n' = n ∧ ∀ ad, A = some ad → (∃ g, ad = ⟨g, 0, none⟩ ∧ B ≤ g ∧ g < w.heap.size) ∧ ∀ j u, xs[j]? = some u → w.cell? (ad.add j) = some u := by
  obtain ⟨hl, h⟩ := h
  rcases h with ⟨h1, h2⟩ | ⟨g, cap', cur, fr, h1, h2, h3, h4, h5, h6, h7, h8⟩
  · rw [hv] at h1
    injection h1 with e1 e2 e3
    subst e1
    exact ⟨by omega, fun ad h => by cases h⟩
  · rw [hv] at h1
    injection h1 with e1 e2 e3
    subst e1
    refine ⟨e2, fun ad had => ?_⟩
    injection had with had
    subst had
    refine ⟨⟨g, rfl, h2, (Array.getElem?_eq_some_iff.1 h3).1⟩, fun j u hu => ?_⟩
    have hadd : (⟨g, 0, none⟩ : Addr).add j = ⟨g, j, none⟩ := by
      unfold Addr.add; split
      · rename_i h; subst h; rfl
      · simp
    rw [hadd, cell_of_row w g j _ _ _ h3, ← Array.getElem?_toList]
    rw [← h8, List.getElem?_take] at hu
    split at hu
    · exact hu
    · cases hu

theorem run_append_Own (w : World) (B : Nat) (t ty e : TypeId) (i : TypeInfo) (z : Value) (size bytes : Nat) (ht : P.underlying t = some (.slice e)) (hi : P.info? e = some i) (hz : i.zero = some z)
    (hsize : i.size = size) (hby : i.bytes = bytes) (hzs : z.cells.size = size) (hsz : 0 < size)
    (v : Value) (n : Nat) (xs : List Value) (hown : Own w B e size v n xs)
    (a : Addr) (m c : Nat) (news : List Value) (hl : news.length = m * size) (hnews : ∀ j u, news[j]? = some u → w.cell? (a.add j) = some u) (h1 : ∀ u ∈ news, u.oneCell' = true)
    (h63 : n + m ≤ maxLen) (hbytes : (n + m) * bytes ≤ 140737488355328) (hbase : B ≤ w.heap.size) :
    ∃ v' w', (Builtin.append_ #[t, t] ty #[v, .slice (some a) m c]).run P w = .ok v' w' ∧ Own w' B e size v' (n + m) (xs ++ news) ∧ w.grownBy w' v.ownBlock := by
  have hown0 := hown
  rcases hown with ⟨hxl, h⟩
  rcases h with ⟨rfl, rfl⟩ | ⟨g, cap, cur, fr, rfl, hbg, hg, hfr, hnc, hcm, hcs, htake⟩
  · have hx : xs = [] := List.eq_nil_of_length_eq_zero (by simpa using hxl)
    subst hx
    obtain ⟨v', w', hr, h2, h3, _⟩ := run_append_own (P := P) w B t ty e i z size bytes ht hi hz hsize hby hzs hsz (.slice none 0 0) 0 [] (World.ownsRow_nil w B e size) a m c news hl hnews h1 h63 hbytes hbase
    exact ⟨v', w', hr, Own.of_ownsRow h2, h3⟩
  · subst hsize
    subst hby
    have hlen : (xs ++ news).length = (n + m) * i.size := by rw [List.length_append, hxl, hl, Nat.add_mul]
    by_cases hroom : n + m ≤ cap
    · have hfit : n * i.size + news.length ≤ cur.size := by rw [hl, hcs, ← Nat.add_mul]; exact Nat.mul_le_mul_right _ hroom
      have hf := run_firstCells_some (P := P) w i.size m a m c news hl hnews
      have hst := storeCells_free (P := P) g (n * i.size) e fr news 0 cur w hg hfr (by simpa using hfit) h1
      simp only [Nat.add_zero] at hst
      have hr : (Builtin.append_ #[t, t] ty #[.slice (some ⟨g, 0, none⟩) n cap, .slice (some a) m c]).run P w =
          .ok (.slice (some ⟨g, 0, none⟩) (n + m) cap) (w.setRow g (cur.toList.take (n * i.size) ++ news ++ cur.toList.drop (n * i.size + news.length)).toArray) := by
        simp [Builtin.append_, run_underlying ht, sizeOf, typeInfo, hi, Builtin.lenOf, hroom, hf, Addr.add_lit, hst]
      have hns : (cur.toList.take (n * i.size) ++ news ++ cur.toList.drop (n * i.size + news.length)).toArray.size = cur.size := by
        simp only [List.size_toArray, List.length_append, List.length_take, List.length_drop, Array.length_toList]
        omega
      refine ⟨_, _, hr, ⟨hlen, .inr ⟨g, cap, _, fr, rfl, hbg, setRow_heap w g cur _ e _ hg, by rw [hns]; exact hfr, hroom, hcm, by rw [hns]; exact hcs, ?_⟩⟩, ⟨rfl, rfl, rfl, by simp, fun k _ hk => setRow_other w g k _ (fun e => hk (by simp [Value.ownBlock, e]))⟩⟩
      rw [htake, ← hlen]
      exact List.take_left
    · have holds := ((hown0.cells rfl).2 _ rfl).2
      have hr := run_append_grow (P := P) w t ty e i z ht hi hz ⟨g, 0, none⟩ n cap xs hxl holds a m c news hl hnews (by omega) (by simp only [maxLen] at h63; omega) (growslice_fits (by omega) hbytes)
      have hge := grownCap_ge w (n + m) cap e
      have hcm' : grownCap w (n + m) cap e ≤ maxLen := grownCap_le_maxLen w (n + m) cap e h63
      refine ⟨_, _, hr, ⟨hlen, .inr ⟨w.heap.size, _, _, _, rfl, hbase, heap_alloc_new w.drew _, .inl rfl, hge, hcm', ?_, ?_⟩⟩, ⟨rfl, rfl, rfl, by simp, fun k hk _ => Below.heap_alloc w.drew _ k hk⟩⟩
      · simp only [Array.size_append, List.size_toArray, size_zeroCells, hzs, hxl, hl, ← Nat.add_mul]
        congr 1
        omega
      · simp only [Array.toList_append, List.append_assoc]
        rw [← List.append_assoc, ← hlen]
        exact List.take_left
end

section
variable {P : Program} (w : World)
/-- 'append' onto a slice of the call's own. -/
theorem wpList_append_Own {ops : Array Oper} {rest : List Oper} {o : Oper} {a : Act} {Q : Exit → Act → World → Prop} (hgd : o.guard = none) (s x : Operand) (t : TypeId)
    (ho : o.op = .call { callee := .builtin .append, args := #[s, x], argTypes := #[t, t] })
    (B : Nat) (e : TypeId) (i : TypeInfo) (z : Value) (size bytes : Nat) (ht : P.underlying t = some (.slice e)) (hi : P.info? e = some i) (hz : i.zero = some z)
    (hsize : i.size = size) (hby : i.bytes = bytes) (hzs : z.cells.size = size) (hsz : 0 < size)
    (v : Value) (n : Nat) (xs : List Value) (hs : a.eval s = v) (hown : Own w B e size v n xs)
    (ad : Addr) (m c : Nat) (news : List Value) (hx : a.eval x = .slice (some ad) m c) (hl : news.length = m * size) (hnews : ∀ j u, news[j]? = some u → w.cell? (ad.add j) = some u) (h1 : ∀ u ∈ news, u.oneCell' = true)
    (h63 : n + m ≤ maxLen) (hbytes : (n + m) * bytes ≤ 140737488355328) (hbase : B ≤ w.heap.size)
    (h : ∀ v' w', Own w' B e size v' (n + m) (xs ++ news) → w.grownBy w' v.ownBlock → wpList P ops Q rest (a.put o.dst v') w') : wpList P ops Q (o :: rest) a w := by
  refine wpList_plain hgd fun _ hK => ?_
  obtain ⟨v', w', hr, h2, h3⟩ := run_append_Own (P := P) w B t o.type e i z size bytes ht hi hz hsize hby hzs hsz v n xs hown ad m c news hl hnews h1 h63 hbytes hbase
  unfold Oper.wp execOp
  simp only [ho, resolve, invoke, builtin, Sem.run_bind, Sem.run_pure, Result.andThen_ok, List.map_toArray, List.map_cons, List.map_nil, hs, hx, hr]
  exact hK _ _ (h v' w' h2 h3)
theorem Own.block_ge {w : World} {B : Nat} {e : TypeId} {size : Nat} {v : Value} {n : Nat} {xs : List Value} (h : Own w B e size v n xs) : ∀ k, v.ownBlock = some k → B ≤ k := by
  obtain ⟨_, h⟩ := h
  rcases h with ⟨rfl, _⟩ | ⟨g, cap, cur, fr, rfl, h2, _⟩
  · intro k hk; simp [Value.ownBlock] at hk
  · intro k hk; simp [Value.ownBlock] at hk; omega
/-- Behind such an append only the row and new blocks have turned. -/
theorem below_append {w0 w w' : World} {B : Nat} {e : TypeId} {size : Nat} {v : Value} {n : Nat} {xs : List Value} (hb : Below B w0 w) (h : Own w B e size v n xs) (hg : w.grownBy w' v.ownBlock) (hB : B ≤ w.heap.size) : Below B w0 w' :=
  hb.grown hg hB h.block_ge
end
end Go.Proofs.Ytlhphhiodckaaaa
