/- Appends. -/
import Derived.Test.YtecoemdhnphmdaaSymG
namespace Go.Proofs.Ytecoemdhnphmdaa
open Go.RowKit
set_option linter.unusedVariables false
set_option linter.unusedSimpArgs false
set_option linter.unnecessarySimpa false
def flatv (n sz : Nat) (cf : Nat → Nat → Value) : List Value := (List.range (n * sz)).map fun q => cf (q / sz) (q % sz)
theorem flatv_length (n sz : Nat) (cf : Nat → Nat → Value) : (flatv n sz cf).length = n * sz := by simp [flatv]
theorem flatv_get {n sz : Nat} {cf : Nat → Nat → Value} {q : Nat} (h : q < n * sz) : (flatv n sz cf)[q]? = some (cf (q / sz) (q % sz)) := by
  unfold flatv
  rw [List.getElem?_map, List.getElem?_range h]
  rfl
theorem flatv_at {n sz : Nat} {cf : Nat → Nat → Value} {i j : Nat} (hi : i < n) (hj : j < sz) : (flatv n sz cf)[i * sz + j]? = some (cf i j) := by
  have h : i * sz + j < n * sz := by
    have := Nat.mul_le_mul_right sz (Nat.succ_le_of_lt hi)
    rw [Nat.succ_mul] at this; omega
  rw [flatv_get h]
  have e1 : (i * sz + j) / sz = i := by rw [Nat.mul_comm, Nat.mul_add_div (by omega), Nat.div_eq_of_lt hj]; omega
  have e2 : (i * sz + j) % sz = j := by rw [Nat.mul_comm, Nat.mul_add_mod, Nat.mod_eq_of_lt hj]
  rw [e1, e2]
section
variable {P : Program} {T : Tab} {B : Base} {M : Mem} {ρ : Rho} {σ : Sig} {s : AS} {a : Act} {w : World}
/-- What a list of cells says: its cells as a row. -/
structure Src (M : Mem) (w : World) (sz : Nat) (g off : Nat) (xs : List (List AV)) (cf : Nat → Nat → Value) : Prop where
  hn : ∀ i (h : i < xs.length), (xs[i]).length = sz
  hm : ∀ i j, i < xs.length → j < sz → M g (off + i * sz + j) = some (cf i j)
  ho : ∀ i j, (cf i j).oneCell' = true
  hr : ∀ i j (h : i < xs.length) (h' : j < (xs[i]).length), Rd M rho0 sig0 (cf i j) ((xs[i])[j])
theorem Src.cells {sz g off : Nat} {xs : List (List AV)} {cf : Nat → Nat → Value} (hs : Src M w sz g off xs cf) (hsz : 0 < sz) (mem : ∀ g o c, M g o = some c → w.cell? ⟨g, o, none⟩ = some c) :
    ∀ j v, (flatv xs.length sz cf)[j]? = some v → w.cell? ((⟨g, off, none⟩ : Addr).add j) = some v := fun q v hq => by
  have hlt : q < xs.length * sz := by
    have := (List.getElem?_eq_some_iff.1 hq).1
    rwa [flatv_length] at this
  rw [flatv_get hlt] at hq
  cases hq
  have e : (q / sz) * sz + q % sz = q := by rw [Nat.mul_comm]; exact Nat.div_add_mod q sz
  have := hs.hm (q / sz) (q % sz) (by rw [Nat.div_lt_iff_lt_mul hsz]; exact hlt) (Nat.mod_lt _ hsz)
  rw [Nat.add_assoc, e] at this
  rw [Addr.add_mid]
  exact mem _ _ _ this
theorem flatv_one {n sz : Nat} {cf : Nat → Nat → Value} (h : ∀ i j, (cf i j).oneCell' = true) : ∀ u ∈ flatv n sz cf, u.oneCell' = true := fun u hu => by
  unfold flatv at hu
  obtain ⟨q, -, rfl⟩ := List.mem_map.1 hu
  exact h _ _
theorem Src.nil {sz g off : Nat} {cf : Nat → Nat → Value} (ho : ∀ i j, (cf i j).oneCell' = true) : Src M w sz g off [] cf := ⟨(fun i h => by cases h), (fun i j h => by cases h), ho, (fun i j h => by cases h)⟩
def cfApp (n : Nat) (cf cf2 : Nat → Nat → Value) : Nat → Nat → Value := fun i j => if i < n then cf i j else cf2 (i - n) j
/-- The two lists, one behind the other, in a row that has just been laid. -/
theorem Src.app {M' : Mem} {sz g off g2 off2 g' off' : Nat} {xs ys : List (List AV)} {cf cf2 : Nat → Nat → Value} (h1 : Src M w sz g off xs cf) (h2 : Src M w sz g2 off2 ys cf2) (sub : ∀ g o c, M g o = some c → M' g o = some c)
    (a1 : ∀ i j, i < xs.length → j < sz → M' g' (off' + i * sz + j) = some (cf i j)) (a2 : ∀ i j, i < ys.length → j < sz → M' g' (off' + (xs.length + i) * sz + j) = some (cf2 i j)) : Src M' w sz g' off' (xs ++ ys) (cfApp xs.length cf cf2) := by
  refine ⟨fun i hi => ?_, fun i j hi hj => ?_, fun i j => ?_, fun i j hi hj => ?_⟩
  · by_cases hx : i < xs.length
    · rw [List.getElem_append_left hx]; exact h1.hn i hx
    · rw [List.getElem_append_right (by omega)]; exact h2.hn _ _
  · unfold cfApp
    by_cases hx : i < xs.length
    · rw [if_pos hx]; exact a1 i j hx hj
    · rw [if_neg hx]
      rw [List.length_append] at hi
      have := a2 (i - xs.length) j (by omega) hj
      rwa [show xs.length + (i - xs.length) = i by omega] at this
  · unfold cfApp; split
    · exact h1.ho _ _
    · exact h2.ho _ _
  · unfold cfApp
    by_cases hx : i < xs.length
    · rw [if_pos hx]
      have e : (xs ++ ys)[i] = xs[i] := List.getElem_append_left hx
      have hj' : j < (xs[i]).length := by rw [← e]; exact hj
      have := (h1.hr i j hx hj').mono sub _ _ (fun _ _ h => h) (fun _ _ h => h)
      simp only [e]; exact this
    · rw [if_neg hx]
      rw [List.length_append] at hi
      have e : (xs ++ ys)[i]'(by rw [List.length_append]; exact hi) = ys[i - xs.length]'(by omega) := List.getElem_append_right (by omega)
      have hj' : j < (ys[i - xs.length]'(by omega)).length := by rw [← e]; exact hj
      have := (h2.hr (i - xs.length) j (by omega) hj').mono sub _ _ (fun _ _ h => h) (fun _ _ h => h)
      simp only [e]; exact this
theorem Src.rd {sz g off len cap : Nat} {xs : List (List AV)} {cf : Nat → Nat → Value} (h : Src M w sz g off xs cf) (hl : xs.length = len) (hc : len ≤ cap) {t : Option Nat} (ht : TokOk σ t g (off + len * sz) (off + cap * sz)) : Rd M ρ σ (.slice (some ⟨g, off, none⟩) len cap) (.list sz xs t) :=
  .list cf hl hc h.hn h.hm h.ho h.hr ht
/-- An append that lays a new row. -/
theorem append_grow (h : SimW B M ρ σ s a w) (d : Nat) (htk : s.tk d = none) {e : TypeId} {sz : Nat} (hsz : 0 < sz) {xs ys : List (List AV)} {cf cf2 : Nat → Nat → Value} {g off g2 off2 : Nat} (h1 : Src M w sz g off xs cf) (h2 : Src M w sz g2 off2 ys cf2)
    (cap : Nat) (hcap : xs.length + ys.length ≤ cap) (zs : Array Value) (hz : zs.size = (cap - (xs.length + ys.length)) * sz) :
    ∃ M' ρ' σ', SimW B M' ρ' σ' ((s.ap (.tok d true)).ap (.env d (.list sz (xs ++ ys) (some d)))) (a.put (some d) (.slice (some ⟨w.heap.size, 0, none⟩) (xs.length + ys.length) cap)) (w.drew.alloc (.cells ((flatv xs.length sz cf).toArray ++ (flatv ys.length sz cf2).toArray ++ zs) e)) := by
  have hsize : ((flatv xs.length sz cf).toArray ++ (flatv ys.length sz cf2).toArray ++ zs).size = cap * sz := by
    simp only [Array.size_append, List.size_toArray, flatv_length, hz, ← Nat.add_mul]
    congr 1; omega
  have hle : (xs.length + ys.length) * sz ≤ cap * sz := Nat.mul_le_mul_right _ hcap
  have nr := h.drew.newrow d htk ((flatv xs.length sz cf).toArray ++ (flatv ys.length sz cf2).toArray ++ zs) e ((xs.length + ys.length) * sz) (by rw [hsize]; exact hle)
  have et : ((flatv xs.length sz cf).toArray ++ (flatv ys.length sz cf2).toArray ++ zs).toList.take ((xs.length + ys.length) * sz) = flatv xs.length sz cf ++ flatv ys.length sz cf2 := by
    simp only [Array.toList_append]
    rw [List.take_left' (by simp [flatv_length, Nat.add_mul])]
  rw [et] at nr
  have hl0 : (flatv xs.length sz cf ++ flatv ys.length sz cf2).length = (xs.length + ys.length) * sz := by simp [flatv_length, Nat.add_mul]
  have sub : ∀ g o c, M g o = some c → addC M w.heap.size 0 (flatv xs.length sz cf ++ flatv ys.length sz cf2) g o = some c := addC_sub fun o _ _ => h.free (Nat.le_refl _) o
  have hidx : ∀ n i j, i < n → j < sz → i * sz + j < n * sz := fun n i j h1 h2 => by
    have := Nat.mul_le_mul_right sz (Nat.succ_le_of_lt h1)
    rw [Nat.succ_mul] at this; omega
  refine ⟨_, ρ, _, nr.put (v := .list sz (xs ++ ys) (some d)) (Src.rd (Src.app h1 h2 sub (fun i j hi hj => ?_) (fun i j hi hj => ?_)) (by simp) hcap ?_) d⟩
  · unfold addC
    have hx := hidx _ i j hi hj
    rw [if_pos ⟨rfl, by omega, by rw [hl0, Nat.add_mul]; omega⟩, List.getElem?_append_left (by rw [flatv_length]; omega), show 0 + i * sz + j - 0 = i * sz + j by omega]
    exact flatv_at hi hj
  · unfold addC
    have hx := hidx _ i j hi hj
    have e : 0 + (xs.length + i) * sz + j = xs.length * sz + (i * sz + j) := by rw [Nat.add_mul]; omega
    rw [e, if_pos ⟨rfl, by omega, by rw [hl0, Nat.add_mul]; omega⟩, List.getElem?_append_right (by rw [flatv_length]; omega), flatv_length, show xs.length * sz + (i * sz + j) - 0 - xs.length * sz = i * sz + j by omega]
    exact flatv_at hi hj
  · intro k hk
    cases hk
    refine .inr ⟨⟨w.heap.size, (xs.length + ys.length) * sz, cap * sz⟩, ?_, rfl, by simp, by simp⟩
    simp only [updS, if_true, hsize]; rfl
/-- An append into the room behind. -/
theorem append_in (h : SimW B M ρ σ s a w) (d k : Nat) (htk : s.tk d = none) (hk : s.tk k = some true) {sz : Nat} (hsz : 0 < sz) {xs ys : List (List AV)} {cf cf2 : Nat → Nat → Value} {g off g2 off2 : Nat} (h1 : Src M w sz g off xs cf) (h2 : Src M w sz g2 off2 ys cf2)
    (cap : Nat) (hcap : xs.length + ys.length ≤ cap) (ht : TokOk σ (some k) g (off + xs.length * sz) (off + cap * sz)) :
    (∀ j, j < ys.length * sz → (w.cell? ⟨g, off + xs.length * sz + j, none⟩).isSome = true ∧ w.frozen? ⟨g, off + xs.length * sz + j, none⟩ = false) ∧
    ∃ M' ρ' σ', SimW B M' ρ' σ' (((s.ap (.tok k false)).ap (.tok d true)).ap (.env d (.list sz (xs ++ ys) (some d)))) (a.put (some d) (.slice (some ⟨g, off, none⟩) (xs.length + ys.length) cap)) (w.setCells g (off + xs.length * sz) (flatv ys.length sz cf2)) := by
  have hidx : ∀ n i j, i < n → j < sz → i * sz + j < n * sz := fun n i j h1 h2 => by
    have := Nat.mul_le_mul_right sz (Nat.succ_le_of_lt h1)
    rw [Nat.succ_mul] at this; omega
  have hle : (xs.length + ys.length) * sz ≤ cap * sz := Nat.mul_le_mul_right _ hcap
  rw [Nat.add_mul] at hle
  rcases ht k rfl with he | ⟨sp, hsp, rfl, hlo, hhi⟩
  · have hy : ys = [] := by
      have : ys.length * sz = 0 := by omega
      rcases Nat.mul_eq_zero.1 this with x | x
      · exact List.length_eq_zero_iff.1 x
      · omega
    subst hy
    refine ⟨fun j hj => by simp at hj, M, ρ, σ, ?_⟩
    have e0 : w.setCells g (off + xs.length * sz) (flatv ([] : List (List AV)).length sz cf2) = w := by simp [flatv, World.setCells]
    rw [e0]
    have htk' : (s.ap (.tok k false)).tk d = none := by
      rw [AS.tk_set]
      split
      · rename_i e; rw [e, hk] at htk; cases htk
      · exact htk
    refine ((h.tokdead k).tokfree d htk').put (v := .list sz (xs ++ []) (some d)) ?_ d
    rw [List.append_nil]
    exact Src.rd h1 rfl (by simpa using hcap) (fun k' hk' => .inl (by simpa using he))
  · obtain ⟨hbase, ⟨ccs, ty, hrow, hb1, hb2⟩, hnone, hrho⟩ := h.tok k sp hk hsp
    have hfl : (flatv ys.length sz cf2).length = ys.length * sz := flatv_length _ _ _
    have nr := h.inplace k d hk sp hsp (flatv ys.length sz cf2) (by omega) htk
    rw [hlo, hfl] at nr
    refine ⟨fun j hj => ⟨by rw [cell_row hrow, Array.getElem?_eq_getElem (by omega)]; rfl, by simp [World.frozen?, hrow]⟩, _, ρ, _, nr.put (v := .list sz (xs ++ ys) (some d)) ?_ d⟩
    have sub : ∀ g o c, M g o = some c → addC M sp.g (off + xs.length * sz) (flatv ys.length sz cf2) g o = some c := addC_sub fun o q1 q2 => hnone o (by omega) (by omega)
    refine Src.rd (Src.app h1 h2 sub (fun i j hi hj => sub _ _ _ (h1.hm i j hi hj)) (fun i j hi hj => ?_)) (by simp) hcap (fun k' hk' => ?_)
    · unfold addC
      have hx := hidx _ i j hi hj
      have e : off + (xs.length + i) * sz + j = off + xs.length * sz + (i * sz + j) := by rw [Nat.add_mul]; omega
      rw [e, if_pos ⟨rfl, by omega, by omega⟩, show off + xs.length * sz + (i * sz + j) - (off + xs.length * sz) = i * sz + j by omega]
      exact flatv_at hi hj
    · cases hk'
      refine .inr ⟨⟨sp.g, off + xs.length * sz + ys.length * sz, sp.hi⟩, by simp [updS], rfl, by dsimp only; rw [Nat.add_mul]; omega, hhi⟩
theorem Rd.src {g off len cap n : Nat} {xs : List (List AV)} {t : Option Nat} (h : Rd M ρ σ (.slice (some ⟨g, off, none⟩) len cap) (.list n xs t)) : ∃ cf, Src M w n g off xs cf ∧ xs.length = len ∧ len ≤ cap ∧ TokOk σ t g (off + len * n) (off + cap * n) := by
  cases h with
  | list cf e1 e2 e3 e4 e5 e6 e7 => exact ⟨cf, ⟨e3, e4, e5, e6⟩, e1, e2, e7⟩
theorem append_ok (hT : TabOk P T) (h : SimW B M ρ σ s a w) {o : Oper} {d : Nat} {t : TypeId} {x y : Operand} (ho : o.op = .call { callee := .builtin .append, args := #[x, y], argTypes := #[t, t] }) (hd : o.dst = some d) {W : List Wr} (hs : appendOp T s d t x y = some W) (K : Act → World → Prop) (Q : Exit → Act → World → Prop) (hK : ∀ a' w', Sim B (s.aps W) a' w' → K a' w') : o.wp P a w K Q := by
  unfold appendOp at hs
  have hx := h.ev x
  have hy := h.ev y
  have run : ∀ c w', (Builtin.append_ #[t, t] o.type #[a.eval x, a.eval y]).run P w = .ok c w' → (execOp a.eval o).run P w = .ok (.value c) w' := fun c w' hc => by
    unfold execOp
    simp only [ho, resolve, Sem.run_bind, Sem.run_pure, Result.andThen_ok, invoke, builtin]
    simp [hc]
  split at hs
  · rename_i e hu
    replace hu := hT.u _ _ hu
    split at hs
    · rename_i p z hi hz htk
      obtain ⟨i, hi, hp1, hp2⟩ := hT.i _ _ hi
      rw [← hp1, ← hp2] at hs
      split at hs
      · rename_i hc
        obtain ⟨c1, c2, c3⟩ := hc
        obtain ⟨zv, z1, z2, i', hi', hzv⟩ := zeroCells_ok hT hz
        rw [hi] at hi'
        cases hi'
        have zsz : zv.cells.size = i.size := by rw [(z2 M ρ σ).1]; exact c1
        split at hs
        · rename_i m ys ty hye
          rw [hye] at hy
          split at hs
          · rename_i hm
            subst hm
            -- the source, as a row
            have hsrc : (∃ g2 off2 len2 cap2 cf2, a.eval y = .slice (some ⟨g2, off2, none⟩) len2 cap2 ∧ Src M w i.size g2 off2 ys cf2 ∧ ys.length = len2) ∨ (a.eval y = .slice none 0 0 ∧ ys = []) := by
              generalize hq : a.eval y = yv at hy
              cases hy with
              | nil => exact .inr ⟨rfl, rfl⟩
              | list cf e1 e2 e3 e4 e5 e6 e7 => exact .inl ⟨_, _, _, _, cf, rfl, ⟨e3, e4, e5, e6⟩, e1⟩
            have hzc : ∀ n : Nat, (Builtin.zeroCells zv.cells n).size = n * i.size := fun n => by rw [size_zeroCells, zsz]
            -- onto nothing
            have onNil : a.eval x = .slice none 0 0 → ys.length * i.bytes ≤ maxBytes → ∀ s' : AS, SimW B M ρ σ s' a w → s'.tk d = none → (∀ a' w', Sim B ((s'.ap (.tok d true)).ap (.env d (.list i.size ys (some d)))) a' w' → K a' w') → o.wp P a w K Q := by
              intro hxe hbd s' h' htk' hK'
              rcases hsrc with ⟨g2, off2, len2, cap2, cf2, hye', hs2, hlen⟩ | ⟨hye', hys⟩
              · by_cases h0 : len2 = 0
                · have hys : ys = [] := List.length_eq_zero_iff.1 (by omega)
                  refine wp_val (v := .slice none 0 0) (w' := w) (run _ _ ?_) (hK' _ _ ?_)
                  · rw [hxe, hye', h0]
                    simp [Builtin.append_, run_underlying' hu, run_sizeOf' hi, Builtin.lenOf, Builtin.firstCells, loadCells, loadCellsFrom]
                  · rw [hd, hys]
                    exact ⟨M, ρ, σ, (h'.tokfree d htk').put .nil d⟩
                · have h48 : len2 * i.bytes ≤ 281474976710656 := by rw [hlen] at hbd; unfold maxBytes at hbd; omega
                  have h63 : (len2 : Int) ≤ 9223372036854775807 := by
                    have : len2 * 1 ≤ len2 * i.bytes := Nat.mul_le_mul_left _ c3
                    omega
                  have hr := run_append_nil (P := P) w t o.type e i zv hu hi hzv ⟨g2, off2, none⟩ len2 cap2 (flatv len2 i.size cf2) (flatv_length _ _ _) (by rw [← hlen]; exact hs2.cells c2 h.mem) (by omega) h63 h48
                  refine wp_val (run _ _ (by rw [hxe, hye']; exact hr)) (hK' _ _ ?_)
                  rw [hd]
                  have ag := append_grow h' d htk' (e := e) c2 (Src.nil (M := M) (w := w) (sz := i.size) (g := 0) (off := 0) (cf := fun _ _ => .bool true) (fun _ _ => rfl)) hs2 (grownCap w len2 0 e) (by simpa [hlen] using grownCap_ge w len2 0 e) (Builtin.zeroCells zv.cells (grownCap w len2 0 e - len2)) (by rw [hzc]; simp [hlen])
                  obtain ⟨M', ρ', σ', q⟩ := ag
                  refine ⟨M', ρ', σ', ?_⟩
                  simpa [flatv, hlen] using q
              · refine wp_val (v := .slice none 0 0) (w' := w) (run _ _ ?_) (hK' _ _ ?_)
                · rw [hxe, hye']
                  simp [Builtin.append_, run_underlying' hu, run_sizeOf' hi, Builtin.lenOf, Builtin.firstCells]
                · rw [hd, hys]
                  exact ⟨M, ρ, σ, (h'.tokfree d htk').put .nil d⟩
            split at hs
            · rename_i hxe
              rw [hxe] at hx
              split at hs
              · rename_i hbd
                cases hs
                exact onNil hx.v_inv hbd s h htk hK
              · cases hs
            · rename_i n xs k hxe
              rw [hxe] at hx
              split at hs
              · rename_i hn
                subst hn
                split at hs
                · rename_i hk
                  split at hs
                  · rename_i hbd
                    cases hs
                    have htk' : (s.ap (.tok k false)).tk d = none := by
                      rw [AS.tk_set]
                      split
                      · rename_i e; rw [e, hk] at htk; cases htk
                      · exact htk
                    generalize hq : a.eval x = xv at hx
                    cases hx with
                    | nil =>
                      refine onNil hq (by simpa using hbd) _ (h.tokdead k) htk' fun a' w' hS => hK a' w' ?_
                      simpa [AS.aps] using hS
                    | @list _ _ g off len cap _ _ _ cf e1 e2 e3 e4 e5 e6 e7 =>
                      have hs1 : Src M w i.size g off xs cf := ⟨e3, e4, e5, e6⟩
                      have hnm : ∀ len2, ys.length = len2 → len + len2 ≤ 140737488351232 := fun len2 hl => by
                        have : (xs.length + ys.length) * 1 ≤ (xs.length + ys.length) * i.bytes := Nat.mul_le_mul_left _ c3
                        unfold maxBytes at hbd
                        omega
                      rcases hsrc with ⟨g2, off2, len2, cap2, cf2, hye', hs2, hlen⟩ | ⟨hye', hys⟩
                      · by_cases hroom : len + len2 ≤ cap
                        · obtain ⟨q1, M', ρ', σ', q2⟩ := append_in h d k htk hk c2 hs1 hs2 cap (by omega) (by rw [e1]; exact e7)
                          have hr := run_append_room_cells (P := P) w t o.type e i hu hi g off len cap ⟨g2, off2, none⟩ len2 cap2 (flatv len2 i.size cf2) (flatv_length _ _ _) (by rw [← hlen]; exact hs2.cells c2 h.mem) (flatv_one hs2.ho) hroom
                            (fun j hj => by rw [flatv_length] at hj; rw [← e1]; exact (q1 j (by rw [hlen]; exact hj)).1) (fun j hj => by rw [flatv_length] at hj; rw [← e1]; exact (q1 j (by rw [hlen]; exact hj)).2)
                          refine wp_val (run _ _ (by rw [hq, hye']; exact hr)) (hK _ _ ?_)
                          rw [hd]
                          rw [e1, hlen] at q2
                          exact ⟨M', ρ', σ', q2⟩
                        · have hb2 : (len + len2) * i.bytes ≤ 140737488355328 := by rw [e1, hlen] at hbd; unfold maxBytes at hbd; omega
                          have hr := run_append_grow (P := P) w t o.type e i zv hu hi hzv ⟨g, off, none⟩ len cap (flatv len i.size cf) (flatv_length _ _ _) (by rw [← e1]; exact hs1.cells c2 h.mem) ⟨g2, off2, none⟩ len2 cap2 (flatv len2 i.size cf2) (flatv_length _ _ _) (by rw [← hlen]; exact hs2.cells c2 h.mem) (by omega)
                            (by have := hnm len2 hlen; omega) (growslice_fits (by omega) hb2)
                          refine wp_val (run _ _ (by rw [hq, hye']; exact hr)) (hK _ _ ?_)
                          rw [hd]
                          have ag := append_grow (h.tokdead k) d htk' (e := e) c2 hs1 hs2 (grownCap w (len + len2) cap e) (by rw [e1, hlen]; exact grownCap_ge w (len + len2) cap e) (Builtin.zeroCells zv.cells (grownCap w (len + len2) cap e - (len + len2))) (by rw [hzc, e1, hlen])
                          rw [e1, hlen] at ag
                          exact ag
                      · subst hys
                        obtain ⟨q1, M', ρ', σ', q2⟩ := append_in h d k htk hk c2 hs1 (Src.nil (M := M) (w := w) (sz := i.size) (g := 0) (off := 0) (cf := fun _ _ => .bool true) (fun _ _ => rfl)) cap (by simpa [e1] using e2) (by rw [e1]; exact e7)
                        refine wp_val (v := .slice (some ⟨g, off, none⟩) len cap) (w' := w) (run _ _ ?_) (hK _ _ ?_)
                        · rw [hq, hye']
                          simp [Builtin.append_, run_underlying' hu, run_sizeOf' hi, Builtin.lenOf, Builtin.firstCells, e2, storeCells]
                        · rw [hd]
                          refine ⟨M', ρ', σ', ?_⟩
                          simpa [flatv, World.setCells, e1, AS.aps] using q2
                  · cases hs
                · cases hs
              · cases hs
            · cases hs
          · cases hs
        · cases hs
      · cases hs
    · cases hs
  · cases hs
end
end Go.Proofs.Ytecoemdhnphmdaa
