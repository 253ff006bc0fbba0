/- Appends. -/
import Derived.Test.YtdmedeaknnldcaaGreatDoorSymG
namespace Go.Proofs.YtdmedeaknnldcaaGreatDoor
open Go.RowKit
set_option linter.unusedVariables false
set_option linter.unusedSimpArgs false
set_option linter.unnecessarySimpa false
def flatv (n sz : Nat) (cf : Nat → Nat → Value) : List Value := (List.range (n * sz)).map fun q => cf (q / sz) (q % sz)
theorem flatv_length (n sz : Nat) (cf : Nat → Nat → Value) : (flatv n sz cf).length = n * sz := by simp [flatv]
theorem flatv_get {n sz : Nat} {cf : Nat → Nat → Value} {q : Nat} (h : q < n * sz) : (flatv n sz cf)[q]? = some (cf (q / sz) (q % sz)) := by
  unfold flatv
  rw [List.getElem?_map, List.getElem?_range h]
  rfl
theorem flatv_at {n sz : Nat} {cf : Nat → Nat → Value} {i j : Nat} (hi : i < n) (hj : j < sz) : (flatv n sz cf)[i * sz + j]? = some (cf i j) := by
  have h : i * sz + j < n * sz := by
    have := Nat.mul_le_mul_right sz (Nat.succ_le_of_lt hi)
    rw [Nat.succ_mul] at this; omega
  rw [flatv_get h]
  have e1 : (i * sz + j) / sz = i := by rw [Nat.mul_comm, Nat.mul_add_div (by omega), Nat.div_eq_of_lt hj]; omega
  have e2 : (i * sz + j) % sz = j := by rw [Nat.mul_comm, Nat.mul_add_mod, Nat.mod_eq_of_lt hj]
  rw [e1, e2]
section
variable {P : Program} {T : Tab} {B : Base} {M : Mem} {ρ : Rho} {σ : Sig} {s : AS} {a : Act} {w : World}
/-- What a list of cells says: its cells as a row. -/
structure Src (M : Mem) (w : World) (sz : Nat) (g off : Nat) (xs : List (List AV)) (cf : Nat → Nat → Value) : Prop where
  hn : ∀ i (h : i < xs.length), (xs[i]).length = sz
  hm : ∀ i j, i < xs.length → j < sz → M g (off + i * sz + j) = some (cf i j)
  ho : ∀ i j, (cf i j).oneCell' = true
  hr : ∀ i j (h : i < xs.length) (h' : j < (xs[i]).length), Rd M rho0 sig0 (cf i j) ((xs[i])[j])
theorem Src.cells {sz g off : Nat} {xs : List (List AV)} {cf : Nat → Nat → Value} (hs : Src M w sz g off xs cf) (hsz : 0 < sz) (mem : ∀ g o c, M g o = some c → w.cell? ⟨g, o, none⟩ = some c) :
    ∀ j v, (flatv xs.length sz cf)[j]? = some v → w.cell? ((⟨g, off, none⟩ : Addr).add j) = some v := fun q v hq => by
  have hlt : q < xs.length * sz := by
    have := (List.getElem?_eq_some_iff.1 hq).1
    rwa [flatv_length] at this
  rw [flatv_get hlt] at hq
  cases hq
  have e : (q / sz) * sz + q % sz = q := by rw [Nat.mul_comm]; exact Nat.div_add_mod q sz
  have := hs.hm (q / sz) (q % sz) (by rw [Nat.div_lt_iff_lt_mul hsz]; exact hlt) (Nat.mod_lt _ hsz)
  rw [Nat.add_assoc, e] at this
  rw [Addr.add_mid]
  exact mem _ _ _ this
theorem flatv_one {n sz : Nat} {cf : Nat → Nat → Value} (h : ∀ i j, (cf i j).oneCell' = true) : ∀ u ∈ flatv n sz cf, u.oneCell' = true := fun u hu => by
  unfold flatv at hu
  obtain ⟨q, -, rfl⟩ := List.mem_map.1 hu
  exact h _ _
theorem Src.nil {sz g off : Nat} {cf : Nat → Nat → Value} (ho : ∀ i j, (cf i j).oneCell' = true) : Src M w sz g off [] cf := ⟨(fun i h => by cases h), (fun i j h => by cases h), ho, (fun i j h => by cases h)⟩
def cfApp (n : Nat) (cf cf2 : Nat → Nat → Value) : Nat → Nat → Value := fun i j => if i < n then cf i j else cf2 (i - n) j
/-- The two lists, one behind the other, in a row that has just been laid. -/
theorem Src.app {M' : Mem} {sz g off g2 off2 g' off' : Nat} {xs ys : List (List AV)} {cf cf2 : Nat → Nat → Value} (h1 : Src M w sz g off xs cf) (h2 : Src M w sz g2 off2 ys cf2) (sub : ∀ g o c, M g o = some c → M' g o = some c)
    (a1 : ∀ i j, i < xs.length → j < sz → M' g' (off' + i * sz + j) = some (cf i j)) (a2 : ∀ i j, i < ys.length → j < sz → M' g' (off' + (xs.length + i) * sz + j) = some (cf2 i j)) : Src M' w sz g' off' (xs ++ ys) (cfApp xs.length cf cf2) := by
  refine ⟨fun i hi => ?_, fun i j hi hj => ?_, fun i j => ?_, fun i j hi hj => ?_⟩
  · by_cases hx : i < xs.length
    · rw [List.getElem_append_left hx]; exact h1.hn i hx
    · rw [List.getElem_append_right (by omega)]; exact h2.hn _ _
  · unfold cfApp
    by_cases hx : i < xs.length
    · rw [if_pos hx]; exact a1 i j hx hj
    · rw [if_neg hx]
      rw [List.length_append] at hi
      have := a2 (i - xs.length) j (by omega) hj
      rwa [show xs.length + (i - xs.length) = i by omega] at this
  · unfold cfApp; split
    · exact h1.ho _ _
    · exact h2.ho _ _
  · unfold cfApp
    by_cases hx : i < xs.length
    · rw [if_pos hx]
      have e : (xs ++ ys)[i] = xs[i] := List.getElem_append_left hx
      have hj' : j < (xs[i]).length := by rw [← e]; exact hj
      have := (h1.hr i j hx hj').mono sub _ _ (fun _ _ h => h) (fun _ _ h => h)
      simp only [e]; exact this
    · rw [if_neg hx]
      rw [List.length_append] at hi
      have e : (xs ++ ys)[i]'(by rw [List.length_append]; exact hi) = ys[i - xs.length]'(by omega) := List.getElem_append_right (by omega)
      have hj' : j < (ys[i - xs.length]'(by omega)).length := by rw [← e]; exact hj
      have := (h2.hr (i - xs.length) j (by omega) hj').mono sub _ _ (fun _ _ h => h) (fun _ _ h => h)
      simp only [e]; exact this
theorem Src.rd {sz g off len cap : Nat} {xs : List (List AV)} {cf : Nat → Nat → Value} (h : Src M w sz g off xs cf) (hl : xs.length = len) (hc : len ≤ cap) {t : Option Nat} (ht : TokOk σ t g (off + len * sz) (off + cap * sz)) : Rd M ρ σ (.slice (some ⟨g, off, none⟩) len cap) (.list sz xs t) :=
  .list cf hl hc h.hn h.hm h.ho h.hr ht
/-- An append that lays a new row. -/
theorem append_grow (h : SimW B M ρ σ s a w) (d τ : Nat) (htk : s.tk τ = none) {e : TypeId} {sz : Nat} (hsz : 0 < sz) {xs ys : List (List AV)} {cf cf2 : Nat → Nat → Value} {g off g2 off2 : Nat} (h1 : Src M w sz g off xs cf) (h2 : Src M w sz g2 off2 ys cf2)
    (cap : Nat) (hcap : xs.length + ys.length ≤ cap) (zs : Array Value) (hz : zs.size = (cap - (xs.length + ys.length)) * sz) :
    ∃ M' ρ' σ', SimW B M' ρ' σ' ((s.ap (.tok τ true)).ap (.env d (.list sz (xs ++ ys) (some τ)))) (a.put (some d) (.slice (some ⟨w.heap.size, 0, none⟩) (xs.length + ys.length) cap)) (w.drew.alloc (.cells ((flatv xs.length sz cf).toArray ++ (flatv ys.length sz cf2).toArray ++ zs) e)) := by
  have hsize : ((flatv xs.length sz cf).toArray ++ (flatv ys.length sz cf2).toArray ++ zs).size = cap * sz := by
    simp only [Array.size_append, List.size_toArray, flatv_length, hz, ← Nat.add_mul]
    congr 1; omega
  have hle : (xs.length + ys.length) * sz ≤ cap * sz := Nat.mul_le_mul_right _ hcap
  have nr := h.drew.newrow τ htk ((flatv xs.length sz cf).toArray ++ (flatv ys.length sz cf2).toArray ++ zs) e ((xs.length + ys.length) * sz) (by rw [hsize]; exact hle)
  have et : ((flatv xs.length sz cf).toArray ++ (flatv ys.length sz cf2).toArray ++ zs).toList.take ((xs.length + ys.length) * sz) = flatv xs.length sz cf ++ flatv ys.length sz cf2 := by
    simp only [Array.toList_append]
    rw [List.take_left' (by simp [flatv_length, Nat.add_mul])]
  rw [et] at nr
  have hl0 : (flatv xs.length sz cf ++ flatv ys.length sz cf2).length = (xs.length + ys.length) * sz := by simp [flatv_length, Nat.add_mul]
  have sub : ∀ g o c, M g o = some c → addC M w.heap.size 0 (flatv xs.length sz cf ++ flatv ys.length sz cf2) g o = some c := addC_sub fun o _ _ => h.free (Nat.le_refl _) o
  have hidx : ∀ n i j, i < n → j < sz → i * sz + j < n * sz := fun n i j h1 h2 => by
    have := Nat.mul_le_mul_right sz (Nat.succ_le_of_lt h1)
    rw [Nat.succ_mul] at this; omega
  refine ⟨_, ρ, _, nr.put (v := .list sz (xs ++ ys) (some τ)) (Src.rd (Src.app h1 h2 sub (fun i j hi hj => ?_) (fun i j hi hj => ?_)) (by simp) hcap ?_) d⟩
  · unfold addC
    have hx := hidx _ i j hi hj
    rw [if_pos ⟨rfl, by omega, by rw [hl0, Nat.add_mul]; omega⟩, List.getElem?_append_left (by rw [flatv_length]; omega), show 0 + i * sz + j - 0 = i * sz + j by omega]
    exact flatv_at hi hj
  · unfold addC
    have hx := hidx _ i j hi hj
    have e : 0 + (xs.length + i) * sz + j = xs.length * sz + (i * sz + j) := by rw [Nat.add_mul]; omega
    rw [e, if_pos ⟨rfl, by omega, by rw [hl0, Nat.add_mul]; omega⟩, List.getElem?_append_right (by rw [flatv_length]; omega), flatv_length, show xs.length * sz + (i * sz + j) - 0 - xs.length * sz = i * sz + j by omega]
    exact flatv_at hi hj
  · intro k hk
    cases hk
    refine .inr ⟨⟨w.heap.size, (xs.length + ys.length) * sz, cap * sz⟩, ?_, rfl, by simp, by simp⟩
    simp only [updS, if_true, hsize]; rfl
/-- An append into the room behind. -/
theorem append_in (h : SimW B M ρ σ s a w) (d τ k : Nat) (htk : s.tk τ = none) (hk : s.tk k = some true) {sz : Nat} (hsz : 0 < sz) {xs ys : List (List AV)} {cf cf2 : Nat → Nat → Value} {g off g2 off2 : Nat} (h1 : Src M w sz g off xs cf) (h2 : Src M w sz g2 off2 ys cf2)
    (cap : Nat) (hcap : xs.length + ys.length ≤ cap) (ht : TokOk σ (some k) g (off + xs.length * sz) (off + cap * sz)) :
    (∀ j, j < ys.length * sz → (w.cell? ⟨g, off + xs.length * sz + j, none⟩).isSome = true ∧ w.frozen? ⟨g, off + xs.length * sz + j, none⟩ = false) ∧
    ∃ M' ρ' σ', SimW B M' ρ' σ' (((s.ap (.tok k false)).ap (.tok τ true)).ap (.env d (.list sz (xs ++ ys) (some τ)))) (a.put (some d) (.slice (some ⟨g, off, none⟩) (xs.length + ys.length) cap)) (w.setCells g (off + xs.length * sz) (flatv ys.length sz cf2)) := by
  have hidx : ∀ n i j, i < n → j < sz → i * sz + j < n * sz := fun n i j h1 h2 => by
    have := Nat.mul_le_mul_right sz (Nat.succ_le_of_lt h1)
    rw [Nat.succ_mul] at this; omega
  have hle : (xs.length + ys.length) * sz ≤ cap * sz := Nat.mul_le_mul_right _ hcap
  rw [Nat.add_mul] at hle
  rcases ht k rfl with he | ⟨sp, hsp, rfl, hlo, hhi⟩
  · have hy : ys = [] := by
      have : ys.length * sz = 0 := by omega
      rcases Nat.mul_eq_zero.1 this with x | x
      · exact List.length_eq_zero_iff.1 x
      · omega
    subst hy
    refine ⟨fun j hj => by simp at hj, M, ρ, σ, ?_⟩
    have e0 : w.setCells g (off + xs.length * sz) (flatv ([] : List (List AV)).length sz cf2) = w := by simp [flatv, World.setCells]
    rw [e0]
    have htk' : (s.ap (.tok k false)).tk τ = none := by
      rw [AS.tk_set]
      split
      · rename_i e; rw [e, hk] at htk; cases htk
      · exact htk
    refine ((h.tokdead k).tokfree τ htk').put (v := .list sz (xs ++ []) (some τ)) ?_ d
    rw [List.append_nil]
    exact Src.rd h1 rfl (by simpa using hcap) (fun k' hk' => .inl (by simpa using he))
  · obtain ⟨hbase, hb1, hnone, hrho⟩ := h.tok k sp hk hsp
    obtain ⟨ccs, ty, hrow, hb2⟩ := h.cap k sp hsp
    have hfl : (flatv ys.length sz cf2).length = ys.length * sz := flatv_length _ _ _
    have nr := h.inplace k τ hk sp hsp (flatv ys.length sz cf2) (by omega) htk
    rw [hlo, hfl] at nr
    refine ⟨fun j hj => ⟨by rw [cell_row hrow, Array.getElem?_eq_getElem (by omega)]; rfl, hrow.frz (by omega)⟩, _, ρ, _, nr.put (v := .list sz (xs ++ ys) (some τ)) ?_ d⟩
    have sub : ∀ g o c, M g o = some c → addC M sp.g (off + xs.length * sz) (flatv ys.length sz cf2) g o = some c := addC_sub fun o q1 q2 => hnone o (by omega) (by omega)
    refine Src.rd (Src.app h1 h2 sub (fun i j hi hj => sub _ _ _ (h1.hm i j hi hj)) (fun i j hi hj => ?_)) (by simp) hcap (fun k' hk' => ?_)
    · unfold addC
      have hx := hidx _ i j hi hj
      have e : off + (xs.length + i) * sz + j = off + xs.length * sz + (i * sz + j) := by rw [Nat.add_mul]; omega
      rw [e, if_pos ⟨rfl, by omega, by omega⟩, show off + xs.length * sz + (i * sz + j) - (off + xs.length * sz) = i * sz + j by omega]
      exact flatv_at hi hj
    · cases hk'
      refine .inr ⟨⟨sp.g, off + xs.length * sz + ys.length * sz, sp.hi⟩, by simp [updS], rfl, by dsimp only; rw [Nat.add_mul]; omega, hhi⟩
theorem Rd.src {g off len cap n : Nat} {xs : List (List AV)} {t : Option Nat} (h : Rd M ρ σ (.slice (some ⟨g, off, none⟩) len cap) (.list n xs t)) : ∃ cf, Src M w n g off xs cf ∧ xs.length = len ∧ len ≤ cap ∧ TokOk σ t g (off + len * n) (off + cap * n) := by
  cases h with
  | list cf e1 e2 e3 e4 e5 e6 e7 => exact ⟨cf, ⟨e3, e4, e5, e6⟩, e1, e2, e7⟩
theorem Src.flat {sz g off : Nat} {xs : List (List AV)} {cf : Nat → Nat → Value} : ∀ (xs : List (List AV)) (cf : Nat → Nat → Value), (∀ i (h : i < xs.length), (xs[i]).length = sz) → (∀ i j (h : i < xs.length) (h' : j < (xs[i]).length), Rd M rho0 sig0 (cf i j) ((xs[i])[j])) →
    xs.flatten.length = xs.length * sz ∧ ∀ q (h : q < xs.flatten.length), Rd M rho0 sig0 (cf (q / sz) (q % sz)) xs.flatten[q]
  | [], cf, _, _ => ⟨by simp, fun q h => by simp at h⟩
  | x :: xs, cf, hn, hr => by
    have hx : x.length = sz := hn 0 (by simp)
    obtain ⟨h1, h2⟩ := Src.flat xs (fun i j => cf (i + 1) j) (fun i h => hn (i + 1) (by simp; omega)) (fun i j h h' => hr (i + 1) j (by simp; omega) (by simpa using h')) (sz := sz) (g := g) (off := off) (xs := xs) (cf := cf)
    refine ⟨by rw [List.flatten_cons, List.length_append, h1, hx, List.length_cons, Nat.add_mul]; omega, fun q hq => ?_⟩
    simp only [List.flatten_cons]
    by_cases hlt : q < x.length
    · rw [List.getElem_append_left hlt]
      have e1 : q / sz = 0 := Nat.div_eq_of_lt (by omega)
      have e2 : q % sz = q := Nat.mod_eq_of_lt (by omega)
      rw [e1, e2]
      exact hr 0 q (by simp) hlt
    · have hle : x.length ≤ q := by omega
      rw [List.getElem_append_right hle]
      rw [List.flatten_cons, List.length_append] at hq
      have := h2 (q - x.length) (by omega)
      have hs0 : 0 < sz := by
        rcases Nat.eq_zero_or_pos sz with h0 | h0
        · have : xs.flatten.length = 0 := by rw [h1, h0]; omega
          omega
        · exact h0
      have e1 : q / sz = (q - x.length) / sz + 1 := by rw [hx]; exact Nat.div_eq_sub_div hs0 (by omega)
      have e2 : q % sz = (q - x.length) % sz := by rw [hx]; exact Nat.mod_eq_sub_mod (by omega)
      rw [e1, e2]
      exact this
/-- A block that is nobody's is written. -/
theorem SimW.orphan (h : SimW B M ρ σ s a w) (g : Nat) (ccs : Array Value) (ty : TypeId) (hrow : At w g ccs ty) (hn : ∀ o, M g o = none) (hbase : B.w0.heap.size ≤ g) (hr : ∀ b, s.bx b ≠ none → ρ b ≠ some g) (off : Nat) (vs : List Value) (hfit : off + vs.length ≤ ccs.size) : SimW B M ρ σ s a (w.setCells g off vs) := by
  have old : ∀ k, k ≠ g → (w.setCells g off vs).heap[k]? = w.heap[k]? := fun k hk => heap_setCells_ne _ _ _ _ _ hk
  obtain ⟨ccs', hrow', hsz', hget⟩ := at_setCells g ty vs off w ccs hrow hfit
  obtain ⟨f1, f2, f3, f4⟩ := setCells_fields g vs off w
  have rowold : ∀ g' n, Row w g' n → Row (w.setCells g off vs) g' n := fun g' n hq => by
    by_cases e : g' = g
    · obtain ⟨c2, t2, q1, q2⟩ := hq
      rw [e] at q1
      obtain ⟨rfl, rfl⟩ := hrow.uniq q1
      exact ⟨ccs', ty, by rw [e]; exact hrow', by omega⟩
    · exact hq.of_heap (old g' e)
  refine { h with mem := fun g' o c hm => ?_, os := f1.trans h.os, tape := f2.trans h.tape, output := f3.trans h.output, size := by rw [f4]; exact h.size, block := fun k h1 h2 h3 => ?_, box := fun b' cs' hb' => ?_, rws := fun g n hr => rowold g n (h.rws g n hr), rlt := fun b' g' hr' => by rw [f4]; exact h.rlt b' g' hr', cap := fun t sp hs => rowold _ _ (h.cap t sp hs) }
  · have hne : g' ≠ g := fun e => by rw [e, hn] at hm; cases hm
    rw [cell_of_heap (old g' hne)]; exact h.mem g' o c hm
  · rw [old k (by omega)]; exact h.block k h1 h2 h3
  · rcases h.box b' cs' hb' with q | ⟨g', q1, q2, q3, q4⟩
    · exact .inl q
    · have hne : g' ≠ g := fun e' => hr b' (bx_ne hb') (e' ▸ q1)
      exact .inr ⟨g', q1, q2.of_heap (old g' hne) fun _ _ h => h, q3, q4⟩
theorem appendB_ok (h : SimW B M ρ σ s a w) {o : Oper} {d : Nat} {t e : TypeId} {i : TypeInfo} {zv : Value} {x y : Operand} (run : ∀ c w', (Builtin.append_ #[t, t] o.type #[a.eval x, a.eval y]).run P w = .ok c w' → (execOp a.eval o).run P w = .ok (.value c) w') (hd : o.dst = some d) (hu : P.underlying t = some (.slice e)) (hi : P.info? e = some i) (hzv : i.zero = some zv) (zsz : zv.cells.size = i.size) (c2 : 0 < i.size) (c3 : 0 < i.bytes) {ys : List (List AV)}
    (hsrc : (∃ g2 off2 len2 cap2 cf2, a.eval y = .slice (some ⟨g2, off2, none⟩) len2 cap2 ∧ Src M w i.size g2 off2 ys cf2 ∧ ys.length = len2) ∨ (a.eval y = .slice none 0 0 ∧ ys = [])) {W : List Wr} (hs : appendB s d (i.size, i.bytes) (s.ev x) ys = some W) (K : Act → World → Prop) (Q : Exit → Act → World → Prop) (hK : ∀ a' w', Sim B (s.aps W) a' w' → K a' w') : o.wp P a w K Q := by
  have hx := h.ev x
  have hzc : ∀ n : Nat, (Builtin.zeroCells zv.cells n).size = n * i.size := fun n => by rw [size_zeroCells, zsz]
  unfold appendB at hs
  dsimp only at hs
  split at hs
  · rename_i hbd htd
    split at hs
    · rename_i hni
      have fl : ∀ g2 off2 cf2, Src M w i.size g2 off2 ys cf2 → ys.flatten.length = ys.length * i.size ∧ ∀ q (h : q < ys.flatten.length), Rd M rho0 sig0 (cf2 (q / i.size) (q % i.size)) ys.flatten[q] := fun g2 off2 cf2 hs2 => Src.flat (sz := i.size) (g := g2) (off := off2) (xs := ys) (cf := cf2) ys cf2 hs2.hn hs2.hr
      -- a new row
      have grow : ∀ (s' : AS) (w' : World), SimW B M ρ σ s' a w' → s'.nin ≤ d → s'.bx d = none → s'.tk (vk d) = none → ∀ (cells1 : List Value) (as1 : List AV) (L : Nat), cells1.length = L * i.size → as1.length = L * i.size → (∀ j (h : j < cells1.length), (cells1[j]).oneCell' = true) → (∀ j (h : j < cells1.length) (h' : j < as1.length), Rd M ρ σ cells1[j] as1[j]) → ∀ (g2 off2 : Nat) (cf2 : Nat → Nat → Value), Src M w i.size g2 off2 ys cf2 → ∀ cap, L + ys.length ≤ cap →
          Sim B (s'.aps [.box d (some (as1 ++ ys.flatten)), .tok (vk d) false, .tok (vm d) false, .env d (.vs d 0 (L + ys.length) i.size)]) (a.put (some d) (.slice (some ⟨w'.heap.size, 0, none⟩) (L + ys.length) cap)) (w'.alloc (.cells (cells1.toArray ++ (flatv ys.length i.size cf2).toArray ++ Builtin.zeroCells zv.cells (cap - (L + ys.length))) e)) := by
        intro s' w' h' q1 q2 q3 cells1 as1 L l1 l2 one1 rd1 g2 off2 cf2 hs2 cap hcap
        obtain ⟨f1, f2⟩ := fl g2 off2 cf2 hs2
        have hsize : (cells1.toArray ++ (flatv ys.length i.size cf2).toArray ++ Builtin.zeroCells zv.cells (cap - (L + ys.length))).size = cap * i.size := by
          simp only [Array.size_append, List.size_toArray, flatv_length, hzc, l1, ← Nat.add_mul]
          congr 1; omega
        have hget : ∀ j (hj : j < (cells1.toArray ++ (flatv ys.length i.size cf2).toArray ++ Builtin.zeroCells zv.cells (cap - (L + ys.length))).size), j < L * i.size + ys.length * i.size → (cells1.toArray ++ (flatv ys.length i.size cf2).toArray ++ Builtin.zeroCells zv.cells (cap - (L + ys.length)))[j] = (if hh : j < cells1.length then cells1[j] else cf2 ((j - L * i.size) / i.size) ((j - L * i.size) % i.size)) := fun j hj hlt => by
          rw [Array.getElem_append_left (by simp [flatv_length, l1]; omega)]
          split
          · rename_i hh
            rw [Array.getElem_append_left (by simpa using hh)]; simp
          · rename_i hh
            rw [Array.getElem_append_right (by simpa using hh)]
            have hq : j - L * i.size < ys.length * i.size := by omega
            have := flatv_get (cf := cf2) hq
            simp only [List.size_toArray, l1, List.getElem_toArray]
            rw [List.getElem?_eq_getElem (by rw [flatv_length]; exact hq)] at this
            exact Option.some.inj this
        refine newvs_put h' d q1 q2 q3 _ e _ (by rw [hsize, List.length_append, l2, f1, ← Nat.add_mul]; exact Nat.mul_le_mul_right _ hcap) (fun j hj hj' => ?_) (fun j hj hj' => ?_) (L + ys.length) cap i.size hcap hsize.symm
        · rw [List.length_append, l2, f1] at hj'
          rw [hget j hj hj']
          split
          · exact one1 _ _
          · exact hs2.ho _ _
        · have hj2 := hj'
          rw [List.length_append, l2, f1] at hj2
          rw [hget j hj hj2]
          split
          · rename_i hh
            rw [List.getElem_append_left (by omega)]; exact rd1 _ _ _
          · rename_i hh
            rw [List.getElem_append_right (by omega)]
            have := f2 (j - as1.length) (by rw [f1]; omega)
            simp only [l2] at this ⊢
            exact this.of0
      -- nothing onto nothing
      have nothing : ∀ (c : Value), (c = .slice none 0 0 ∨ ∃ g o, c = .slice (some ⟨g, o, none⟩) 0 0) → ∀ (s' : AS), SimW B M ρ σ s' a w → s'.nin ≤ d → s'.bx d = none → s'.tk (vk d) = none → Sim B (s'.aps [.box d (some []), .tok (vk d) false, .tok (vm d) false, .env d (.vs d 0 0 i.size)]) (a.put (some d) c) w := by
        intro c hc s' h' q1 q2 q3
        refine ⟨M, ρ, σ, (((h'.ghost d q1 q2 q3).mark (vk d) q3).tokdead (vm d)).put (v := .vs d 0 0 i.size) ?_ d⟩
        rcases hc with rfl | ⟨g, o, rfl⟩
        · exact .vsn
        · exact .vse
      -- onto a slice without a cell
      have onEmpty : (a.eval x = .slice none 0 0 ∨ ∃ g o, a.eval x = .slice (some ⟨g, o, none⟩) 0 0) → ys.length * i.bytes ≤ maxBytes → ∀ s' : AS, SimW B M ρ σ s' a w → s'.nin ≤ d → s'.bx d = none → s'.tk (vk d) = none → (∀ a' w', Sim B (s'.aps [.box d (some ys.flatten), .tok (vk d) false, .tok (vm d) false, .env d (.vs d 0 ys.length i.size)]) a' w' → K a' w') → o.wp P a w K Q := by
        intro hxe hbd' s' h' q1 q2 q3 hK'
        rcases hsrc with ⟨g2, off2, len2, cap2, cf2, hye', hs2, hlen⟩ | ⟨hye', hys⟩
        · by_cases h0 : len2 = 0
          · have hys : ys = [] := List.length_eq_zero_iff.1 (by omega)
            subst hys
            refine wp_val (v := a.eval x) (w' := w) (run _ _ ?_) (hK' _ _ ?_)
            · rw [hye', h0]
              rcases hxe with hxe | ⟨g, q, hxe⟩ <;> rw [hxe] <;> simp [Builtin.append_, run_underlying' hu, run_sizeOf' hi, Builtin.lenOf, Builtin.firstCells, loadCells, loadCellsFrom, storeCells]
            · rw [hd]; exact nothing _ hxe s' h' q1 q2 q3
          · have h48 : len2 * i.bytes ≤ 281474976710656 := by rw [hlen] at hbd'; unfold maxBytes at hbd'; omega
            have h63 : (len2 : Int) ≤ 9223372036854775807 := by
              have : len2 * 1 ≤ len2 * i.bytes := Nat.mul_le_mul_left _ c3
              omega
            have hc2 : ∀ j v, (flatv len2 i.size cf2)[j]? = some v → w.cell? ((⟨g2, off2, none⟩ : Addr).add j) = some v := by rw [← hlen]; exact hs2.cells c2 h.mem
            have gr := grow s' w.drew h'.drew q1 q2 q3 [] [] 0 (by simp) (by simp) (fun j hj => by cases hj) (fun j hj => by cases hj) g2 off2 cf2 hs2
            rcases hxe with hxe | ⟨g, q, hxe⟩
            · have hr := run_append_nil (P := P) w t o.type e i zv hu hi hzv ⟨g2, off2, none⟩ len2 cap2 (flatv len2 i.size cf2) (flatv_length _ _ _) hc2 (by omega) h63 h48
              refine wp_val (run _ _ (by rw [hxe, hye']; exact hr)) (hK' _ _ ?_)
              rw [hd]
              have := gr (grownCap w len2 0 e) (by simpa [hlen] using grownCap_ge w len2 0 e)
              simpa [flatv, hlen] using this
            · have hr := run_append_grow (P := P) w t o.type e i zv hu hi hzv ⟨g, q, none⟩ 0 0 [] (by simp) (fun j v hv => by simp at hv) ⟨g2, off2, none⟩ len2 cap2 (flatv len2 i.size cf2) (flatv_length _ _ _) hc2 (by omega) (by omega) (growslice_fits (by omega) (by rw [hlen] at hbd'; unfold maxBytes at hbd'; rw [Nat.zero_add]; omega))
              refine wp_val (run _ _ (by rw [hxe, hye']; exact hr)) (hK' _ _ ?_)
              rw [hd]
              have := gr (grownCap w (0 + len2) 0 e) (by simpa [hlen] using grownCap_ge w (0 + len2) 0 e)
              simpa [flatv, hlen] using this
        · subst hys
          refine wp_val (v := a.eval x) (w' := w) (run _ _ ?_) (hK' _ _ ?_)
          · rw [hye']
            rcases hxe with hxe | ⟨g, q, hxe⟩ <;> rw [hxe] <;> simp [Builtin.append_, run_underlying' hu, run_sizeOf' hi, Builtin.lenOf, Builtin.firstCells, storeCells]
          · rw [hd]; exact nothing _ hxe s' h' q1 q2 q3
      split at hs
      · rename_i z hxe
        rw [hxe] at hx
        split at hs
        · split at hs
          · rename_i hbd'
            cases hs
            exact onEmpty (.inl hx.v_inv) hbd' s h hni hbd htd hK
          · cases hs
        · cases hs
      · rename_i b off len n hxe
        rw [hxe] at hx
        split at hs
        · rename_i hc
          obtain ⟨rfl, rfl, hnb, hne⟩ := hc
          split at hs
          · rename_i cs mk hcs hmk
            split at hs
            · rename_i hc2
              obtain ⟨hfit, hbd'⟩ := hc2
              cases hs
              have hdr := h.drop b (by rw [hmk]; simp)
              have e1 : (s.ap (.box b none)).bx d = none := by
                rw [AS.bx_set]
                split
                · rfl
                · exact hbd
              have e2 : (s.ap (.box b none)).tk (vk d) = none := htd
              have emp : (a.eval x = .slice none 0 0 ∨ ∃ g o, a.eval x = .slice (some ⟨g, o, none⟩) 0 0) → len = 0 → o.wp P a w K Q := fun hxe' hl0 => by
                subst hl0
                refine onEmpty hxe' (by simpa using hbd') _ hdr hni e1 e2 fun a' w' hS => hK a' w' ?_
                simpa [AS.aps] using hS
              generalize hq : a.eval x = xv at hx emp
              cases hx with
              | vsn => exact emp (.inl rfl) rfl
              | vse => exact emp (.inr ⟨_, _, rfl⟩) rfl
              | @vs _ _ _ g _ _ cap _ hg hlc hcap =>
                obtain ⟨sp, p1, p2, p3⟩ := hcap
                rw [Nat.zero_add] at p3
                rcases h.box b cs hcs with ⟨-, e⟩ | ⟨g', hg', ⟨ccs, ty, r1, r2, r3, r4⟩, r5, -⟩
                · rw [hg] at e; cases e
                rw [hg] at hg'
                cases hg'
                have hbase : B.w0.heap.size ≤ g := h.fresh b g hnb hg
                obtain ⟨ccs0, ty0, w1, w2⟩ := h.cap _ _ p1
                rw [p2] at w1
                obtain ⟨rfl, rfl⟩ := r1.uniq w1
                have hnob : ∀ b', (s.ap (.box b none)).bx b' ≠ none → ρ b' ≠ some g := fun b' hb' e => by
                  rw [AS.bx_set] at hb'
                  by_cases eb : b' = b
                  · rw [if_pos eb] at hb'; exact hb' rfl
                  · rw [if_neg eb] at hb'; exact eb (h.inj b' b g hb' (bx_ne hcs) e hg)
                have hnot : ∀ t' sp', (s.ap (.box b none)).tk t' = some true → σ t' = some sp' → sp'.g ≠ g := fun t' sp' h1 h2 e => (h.tok t' sp' h1 h2).2.2.2 b (bx_ne hcs) (e ▸ hg)
                have htl : (cs.take (len * i.size)).length = len * i.size := by simp; omega
                have hcl : (ccs.toList.take (len * i.size)).length = len * i.size := by simp; omega
                have h0i : (0 * i.size : Nat) = 0 := Nat.zero_mul _
                -- in the room that is there
                have inroom : ∀ (vs : List Value) (as : List AV), vs.length = as.length → (∀ j (h : j < vs.length), (vs[j]).oneCell' = true) → (∀ j (h : j < vs.length) (h' : j < as.length), Rd M ρ σ vs[j] as[j]) → ∀ m, as.length = m * i.size → len + m ≤ cap → Sim B (s.aps [.box b none, .box d (some (cs.take (len * i.size) ++ as)), .tok (vk d) false, .tok (vm d) false, .env d (.vs d 0 (len + m) i.size)]) (a.put (some d) (.slice (some ⟨g, 0 * i.size, none⟩) (len + m) cap)) (w.setCells g (len * i.size) vs) := by
                  intro vs as l1 one1 rd1 m hm hroom
                  have hle : (len + m) * i.size ≤ cap * i.size := Nat.mul_le_mul_right _ hroom
                  rw [Nat.add_mul] at hle
                  have ho := hdr.orphan g ccs ty r1 r5 hbase hnob (len * i.size) vs (by omega)
                  obtain ⟨ccs', s1, s2, s3⟩ := at_setCells g ty vs (len * i.size) w ccs r1 (by omega)
                  have had := ho.adopt d hni e1 e2 g (cs.take (len * i.size) ++ as) ⟨ccs', ty, s1, by rw [List.length_append, htl]; omega, fun j hj hj' => ?_, fun j hj hj' => ?_⟩ r5 hbase hnob hnot
                  · have hcp := had.setcap (vk d) (by exact e2) sp (by rw [p2]; exact ⟨ccs', ty, s1, by omega⟩)
                    refine ⟨M, _, _, (hcp.tokdead (vm d)).put (v := .vs d 0 (len + m) i.size) ?_ d⟩
                    exact .vs (by simp [updR]) hroom ⟨sp, by simp [updS], p2, by rw [Nat.zero_add]; exact p3⟩
                  · have q := s3 j
                    rw [Array.getElem?_eq_getElem hj] at q
                    rw [List.length_append, htl] at hj'
                    split at q
                    · rw [List.getElem?_eq_getElem (by omega)] at q
                      rw [Option.some.inj q]; exact one1 _ _
                    · rw [Array.getElem?_eq_getElem (by omega)] at q
                      rw [Option.some.inj q]; exact r3 _ _ (by omega)
                  · have q := s3 j
                    rw [Array.getElem?_eq_getElem hj] at q
                    have hj2 := hj'
                    rw [List.length_append, htl] at hj2
                    split at q
                    · rename_i hin
                      rw [List.getElem?_eq_getElem (by omega)] at q
                      rw [Option.some.inj q, List.getElem_append_right (by omega)]
                      simp only [htl]
                      exact rd1 _ _ _
                    · rename_i hin
                      rw [Array.getElem?_eq_getElem (by omega)] at q
                      rw [Option.some.inj q, List.getElem_append_left (by omega)]
                      simp only [List.getElem_take]
                      exact r4 _ _ _
                have stay : ys = [] → (Builtin.append_ #[t, t] o.type #[.slice (some ⟨g, 0 * i.size, none⟩) len cap, a.eval y]).run P w = .ok (.slice (some ⟨g, 0 * i.size, none⟩) len cap) w → o.wp P a w K Q := fun hys hr => by
                  refine wp_val (run _ _ (by rw [hq]; exact hr)) (hK _ _ ?_)
                  have := inroom [] [] rfl (fun j hj => by cases hj) (fun j hj => by cases hj) 0 (by simp) (by omega)
                  rw [hd, hys]
                  simpa [World.setCells] using this
                rcases hsrc with ⟨g2, off2, len2, cap2, cf2, hye', hs2, hlen⟩ | ⟨hye', hys⟩
                · obtain ⟨f1, f2⟩ := fl g2 off2 cf2 hs2
                  have hc2 : ∀ j v, (flatv len2 i.size cf2)[j]? = some v → w.cell? ((⟨g2, off2, none⟩ : Addr).add j) = some v := by rw [← hlen]; exact hs2.cells c2 h.mem
                  by_cases hroom : len + len2 ≤ cap
                  · have hle : (len + len2) * i.size ≤ cap * i.size := Nat.mul_le_mul_right _ hroom
                    rw [Nat.add_mul] at hle
                    have hr := run_append_room_cells (P := P) w t o.type e i hu hi g (0 * i.size) len cap ⟨g2, off2, none⟩ len2 cap2 (flatv len2 i.size cf2) (flatv_length _ _ _) hc2 (flatv_one hs2.ho) hroom
                      (fun j hj => by rw [flatv_length] at hj; rw [cell_row r1, Array.getElem?_eq_getElem (by omega)]; rfl) (fun j hj => r1.frz (by rw [flatv_length] at hj; omega))
                    refine wp_val (run _ _ (by rw [hq, hye']; exact hr)) (hK _ _ ?_)
                    rw [hd]
                    have := inroom (flatv len2 i.size cf2) ys.flatten (by rw [flatv_length, f1, hlen]) (fun j hj => flatv_one hs2.ho _ (List.getElem_mem _)) (fun j hj hj' => by
                      have q := f2 j hj'
                      have hj2 := hj
                      rw [flatv_length] at hj2
                      have e3 := flatv_get (cf := cf2) hj2
                      rw [List.getElem?_eq_getElem hj] at e3
                      rw [Option.some.inj e3]
                      exact q.of0) len2 (by rw [f1, hlen]) hroom
                    rw [hlen]
                    rw [h0i, Nat.zero_add] at *
                    exact this
                  · have hnm : len + len2 ≤ 140737488351232 := by
                      have : (len + ys.length) * 1 ≤ (len + ys.length) * i.bytes := Nat.mul_le_mul_left _ c3
                      unfold maxBytes at hbd'
                      omega
                    have hb2 : (len + len2) * i.bytes ≤ 140737488355328 := by rw [hlen] at hbd'; unfold maxBytes at hbd'; omega
                    have hr := run_append_grow (P := P) w t o.type e i zv hu hi hzv ⟨g, 0 * i.size, none⟩ len cap (ccs.toList.take (len * i.size)) hcl (fun j v hv => by
                      rw [Addr.add_mid, h0i, Nat.zero_add, cell_row r1]
                      rw [List.getElem?_take] at hv
                      split at hv
                      · simpa using hv
                      · cases hv) ⟨g2, off2, none⟩ len2 cap2 (flatv len2 i.size cf2) (flatv_length _ _ _) hc2 (by omega) (by omega) (growslice_fits (by omega) hb2)
                    refine wp_val (run _ _ (by rw [hq, hye']; exact hr)) (hK _ _ ?_)
                    rw [hd]
                    have := grow _ w.drew hdr.drew hni e1 e2 (ccs.toList.take (len * i.size)) (cs.take (len * i.size)) len hcl htl (fun j hj => by
                      simp only [List.getElem_take, Array.getElem_toList]; rw [hcl] at hj; exact r3 _ _ (by omega)) (fun j hj hj' => by
                      simp only [List.getElem_take, Array.getElem_toList]; exact r4 _ _ _) g2 off2 cf2 hs2 (grownCap w (len + len2) cap e) (by rw [hlen]; exact grownCap_ge w (len + len2) cap e)
                    rw [hlen] at this ⊢
                    exact this
                · subst hys
                  exact stay rfl (by
                    rw [hye']
                    simp [Builtin.append_, run_underlying' hu, run_sizeOf' hi, Builtin.lenOf, Builtin.firstCells, hlc, storeCells])
            · cases hs
          · cases hs
        · cases hs
      · cases hs
    · cases hs
  · cases hs
theorem append_ok (hT : TabOk P T) (h : SimW B M ρ σ s a w) {o : Oper} {d : Nat} {t : TypeId} {x y : Operand} (ho : o.op = .call { callee := .builtin .append, args := #[x, y], argTypes := #[t, t] }) (hd : o.dst = some d) {W : List Wr} (hs : appendOp T s d t x y = some W) (K : Act → World → Prop) (Q : Exit → Act → World → Prop) (hK : ∀ a' w', Sim B (s.aps W) a' w' → K a' w') : o.wp P a w K Q := by
  unfold appendOp at hs
  have hx := h.ev x
  have hy := h.ev y
  have run : ∀ c w', (Builtin.append_ #[t, t] o.type #[a.eval x, a.eval y]).run P w = .ok c w' → (execOp a.eval o).run P w = .ok (.value c) w' := fun c w' hc => by
    unfold execOp
    simp only [ho, resolve, Sem.run_bind, Sem.run_pure, Result.andThen_ok, invoke, builtin]
    simp [hc]
  split at hs
  · rename_i e hu
    replace hu := hT.u _ _ hu
    split at hs
    · rename_i p z hi hz htk
      obtain ⟨i, hi, hp1, hp2⟩ := hT.i _ _ hi
      rw [← hp1, ← hp2] at hs
      split at hs
      · rename_i hc
        obtain ⟨c1, c2, c3⟩ := hc
        obtain ⟨zv, z1, z2, i', hi', hzv⟩ := zeroCells_ok hT hz
        rw [hi] at hi'
        cases hi'
        have zsz : zv.cells.size = i.size := by rw [(z2 M ρ σ).1]; exact c1
        split at hs
        · rename_i m ys ty hye
          rw [hye] at hy
          split at hs
          · rename_i hm
            subst hm
            -- the source, as a row
            have hsrc : (∃ g2 off2 len2 cap2 cf2, a.eval y = .slice (some ⟨g2, off2, none⟩) len2 cap2 ∧ Src M w i.size g2 off2 ys cf2 ∧ ys.length = len2) ∨ (a.eval y = .slice none 0 0 ∧ ys = []) := by
              generalize hq : a.eval y = yv at hy
              cases hy with
              | nil => exact .inr ⟨rfl, rfl⟩
              | list cf e1 e2 e3 e4 e5 e6 e7 => exact .inl ⟨_, _, _, _, cf, rfl, ⟨e3, e4, e5, e6⟩, e1⟩
            have hzc : ∀ n : Nat, (Builtin.zeroCells zv.cells n).size = n * i.size := fun n => by rw [size_zeroCells, zsz]
            -- onto nothing
            have onNil : a.eval x = .slice none 0 0 → ys.length * i.bytes ≤ maxBytes → ∀ s' : AS, SimW B M ρ σ s' a w → s'.tk (tD d 0) = none → (∀ a' w', Sim B ((s'.ap (.tok (tD d 0) true)).ap (.env d (.list i.size ys (some (tD d 0))))) a' w' → K a' w') → o.wp P a w K Q := by
              intro hxe hbd s' h' htk' hK'
              rcases hsrc with ⟨g2, off2, len2, cap2, cf2, hye', hs2, hlen⟩ | ⟨hye', hys⟩
              · by_cases h0 : len2 = 0
                · have hys : ys = [] := List.length_eq_zero_iff.1 (by omega)
                  refine wp_val (v := .slice none 0 0) (w' := w) (run _ _ ?_) (hK' _ _ ?_)
                  · rw [hxe, hye', h0]
                    simp [Builtin.append_, run_underlying' hu, run_sizeOf' hi, Builtin.lenOf, Builtin.firstCells, loadCells, loadCellsFrom]
                  · rw [hd, hys]
                    exact ⟨M, ρ, σ, (h'.tokfree (tD d 0) htk').put .nil d⟩
                · have h48 : len2 * i.bytes ≤ 281474976710656 := by rw [hlen] at hbd; unfold maxBytes at hbd; omega
                  have h63 : (len2 : Int) ≤ 9223372036854775807 := by
                    have : len2 * 1 ≤ len2 * i.bytes := Nat.mul_le_mul_left _ c3
                    omega
                  have hr := run_append_nil (P := P) w t o.type e i zv hu hi hzv ⟨g2, off2, none⟩ len2 cap2 (flatv len2 i.size cf2) (flatv_length _ _ _) (by rw [← hlen]; exact hs2.cells c2 h.mem) (by omega) h63 h48
                  refine wp_val (run _ _ (by rw [hxe, hye']; exact hr)) (hK' _ _ ?_)
                  rw [hd]
                  have ag := append_grow h' d (tD d 0) htk' (e := e) c2 (Src.nil (M := M) (w := w) (sz := i.size) (g := 0) (off := 0) (cf := fun _ _ => .bool true) (fun _ _ => rfl)) hs2 (grownCap w len2 0 e) (by simpa [hlen] using grownCap_ge w len2 0 e) (Builtin.zeroCells zv.cells (grownCap w len2 0 e - len2)) (by rw [hzc]; simp [hlen])
                  obtain ⟨M', ρ', σ', q⟩ := ag
                  refine ⟨M', ρ', σ', ?_⟩
                  simpa [flatv, hlen] using q
              · refine wp_val (v := .slice none 0 0) (w' := w) (run _ _ ?_) (hK' _ _ ?_)
                · rw [hxe, hye']
                  simp [Builtin.append_, run_underlying' hu, run_sizeOf' hi, Builtin.lenOf, Builtin.firstCells]
                · rw [hd, hys]
                  exact ⟨M, ρ, σ, (h'.tokfree (tD d 0) htk').put .nil d⟩
            cases hbm : T.bm d with
            | true =>
              rw [hbm] at hs
              simp only [cond_true] at hs
              exact appendB_ok h run hd hu hi hzv zsz c2 c3 hsrc (by rw [show (i.size, i.bytes) = p from Prod.ext hp1 hp2]; exact hs) K Q hK
            | false =>
            rw [hbm] at hs
            simp only [cond_false] at hs
            split at hs
            · rename_i hxe
              rw [hxe] at hx
              split at hs
              · rename_i hbd
                cases hs
                exact onNil hx.v_inv hbd s h htk hK
              · cases hs
            · rename_i n xs k hxe
              rw [hxe] at hx
              split at hs
              · rename_i hn
                subst hn
                split at hs
                · rename_i hk
                  split at hs
                  · rename_i hbd
                    cases hs
                    have htk' : (s.ap (.tok k false)).tk (tD d 0) = none := by
                      rw [AS.tk_set]
                      split
                      · rename_i e; rw [e, hk] at htk; cases htk
                      · exact htk
                    generalize hq : a.eval x = xv at hx
                    cases hx with
                    | nil =>
                      refine onNil hq (by simpa using hbd) _ (h.tokdead k) htk' fun a' w' hS => hK a' w' ?_
                      simpa [AS.aps] using hS
                    | @list _ _ g off len cap _ _ _ cf e1 e2 e3 e4 e5 e6 e7 =>
                      have hs1 : Src M w i.size g off xs cf := ⟨e3, e4, e5, e6⟩
                      have hnm : ∀ len2, ys.length = len2 → len + len2 ≤ 140737488351232 := fun len2 hl => by
                        have : (xs.length + ys.length) * 1 ≤ (xs.length + ys.length) * i.bytes := Nat.mul_le_mul_left _ c3
                        unfold maxBytes at hbd
                        omega
                      rcases hsrc with ⟨g2, off2, len2, cap2, cf2, hye', hs2, hlen⟩ | ⟨hye', hys⟩
                      · by_cases hroom : len + len2 ≤ cap
                        · obtain ⟨q1, M', ρ', σ', q2⟩ := append_in h d (tD d 0) k htk hk c2 hs1 hs2 cap (by omega) (by rw [e1]; exact e7)
                          have hr := run_append_room_cells (P := P) w t o.type e i hu hi g off len cap ⟨g2, off2, none⟩ len2 cap2 (flatv len2 i.size cf2) (flatv_length _ _ _) (by rw [← hlen]; exact hs2.cells c2 h.mem) (flatv_one hs2.ho) hroom
                            (fun j hj => by rw [flatv_length] at hj; rw [← e1]; exact (q1 j (by rw [hlen]; exact hj)).1) (fun j hj => by rw [flatv_length] at hj; rw [← e1]; exact (q1 j (by rw [hlen]; exact hj)).2)
                          refine wp_val (run _ _ (by rw [hq, hye']; exact hr)) (hK _ _ ?_)
                          rw [hd]
                          rw [e1, hlen] at q2
                          exact ⟨M', ρ', σ', q2⟩
                        · have hb2 : (len + len2) * i.bytes ≤ 140737488355328 := by rw [e1, hlen] at hbd; unfold maxBytes at hbd; omega
                          have hr := run_append_grow (P := P) w t o.type e i zv hu hi hzv ⟨g, off, none⟩ len cap (flatv len i.size cf) (flatv_length _ _ _) (by rw [← e1]; exact hs1.cells c2 h.mem) ⟨g2, off2, none⟩ len2 cap2 (flatv len2 i.size cf2) (flatv_length _ _ _) (by rw [← hlen]; exact hs2.cells c2 h.mem) (by omega)
                            (by have := hnm len2 hlen; omega) (growslice_fits (by omega) hb2)
                          refine wp_val (run _ _ (by rw [hq, hye']; exact hr)) (hK _ _ ?_)
                          rw [hd]
                          have ag := append_grow (h.tokdead k) d (tD d 0) htk' (e := e) c2 hs1 hs2 (grownCap w (len + len2) cap e) (by rw [e1, hlen]; exact grownCap_ge w (len + len2) cap e) (Builtin.zeroCells zv.cells (grownCap w (len + len2) cap e - (len + len2))) (by rw [hzc, e1, hlen])
                          rw [e1, hlen] at ag
                          exact ag
                      · subst hys
                        obtain ⟨q1, M', ρ', σ', q2⟩ := append_in h d (tD d 0) k htk hk c2 hs1 (Src.nil (M := M) (w := w) (sz := i.size) (g := 0) (off := 0) (cf := fun _ _ => .bool true) (fun _ _ => rfl)) cap (by simpa [e1] using e2) (by rw [e1]; exact e7)
                        refine wp_val (v := .slice (some ⟨g, off, none⟩) len cap) (w' := w) (run _ _ ?_) (hK _ _ ?_)
                        · rw [hq, hye']
                          simp [Builtin.append_, run_underlying' hu, run_sizeOf' hi, Builtin.lenOf, Builtin.firstCells, e2, storeCells]
                        · rw [hd]
                          refine ⟨M', ρ', σ', ?_⟩
                          simpa [flatv, World.setCells, e1, AS.aps] using q2
                  · cases hs
                · cases hs
              · cases hs
            · cases hs
          · cases hs
        · cases hs
      · cases hs
    · cases hs
  · cases hs
/-- A later world that holds what was there. -/
theorem SimW.later (h : SimW B M ρ σ s a w) {w' : World} (old : ∀ k, k < w.heap.size → w'.heap[k]? = w.heap[k]?) (hs : w.heap.size ≤ w'.heap.size) (ho : w'.os = w.os) (ht : w'.tape = w.tape) (hp : w'.output = w.output) : SimW B M ρ σ s a w' := by
  have h_rws : ∀ g n, Row B.w0 g n → Row w' g n := fun g n hr => by
    have := h.rws g n hr
    exact this.of_heap (old _ this.lt)
  refine { h with mem := fun g o c hm => ?_, os := ho.trans h.os, tape := ht.trans h.tape, output := hp.trans h.output, size := Nat.le_trans h.size hs, block := fun k h1 h2 h3 => ?_, box := fun b cs' hb => ?_, rws := h_rws, rlt := fun b g hr => Nat.lt_of_lt_of_le (h.rlt b g hr) hs, cap := fun t sp hs' => ?_ }
  · rw [cell_of_heap (old g (cell_lt (h.mem g o c hm)))]; exact h.mem g o c hm
  · rw [old k (Nat.lt_of_lt_of_le h1 h.size)]; exact h.block k h1 h2 h3
  · rcases h.box b cs' hb with e | ⟨g, q1, q2, q3, q4⟩
    · exact .inl e
    · exact .inr ⟨g, q1, q2.of_heap (old g q2.lt) fun _ _ h => h, q3, q4⟩
  · have := h.cap t sp hs'
    exact this.of_heap (old _ this.lt)
/-- A string's bytes, as a slice. -/
def bytesL (b : ByteArray) : List (List AV) := b.data.toList.map fun x => [.v (.int .u8 x.toNat)]
def bytesOp (T : Tab) (s : AS) (d : Nat) (src dst : TypeId) (x : Operand) : Option (List Wr) :=
  match T.u src, T.u dst, s.ev x with
  | some .string, some (.slice e), .v (.string b) =>
    (match T.u e with
    | some (.int .u8) => (match s.tk (tD d 0) with | none => some [.tok (tD d 0) true, .env d (.list 1 (bytesL b) (some (tD d 0)))] | _ => none)
    | _ => none)
  | _, _, _ => none
theorem bytes_ok (hT : TabOk P T) (h : SimW B M ρ σ s a w) {o : Oper} {d : Nat} {src dst : TypeId} {x : Operand} (ho : o.op = .convert src dst x) (hd : o.dst = some d) {W : List Wr} (hs : bytesOp T s d src dst x = some W) (K : Act → World → Prop) (Q : Exit → Act → World → Prop) (hK : ∀ a' w', Sim B (s.aps W) a' w' → K a' w') : o.wp P a w K Q := by
  unfold bytesOp at hs
  have hx := h.ev x
  split at hs
  · rename_i e b hu hv hxe
    rw [hxe] at hx
    split at hs
    · rename_i he
      split at hs
      · rename_i htk
        cases hs
        have hu := hT.u _ _ hu
        have hv := hT.u _ _ hv
        have he := hT.u _ _ he
        have hcs : (Lib.bytesCells w e b).size = grownCap w b.size 0 e := by
          have := grownCap_ge w b.size 0 e
          simp [Lib.bytesCells]
          omega
        have hge := grownCap_ge w b.size 0 e
        refine wp_val (v := .slice (some ⟨w.heap.size, 0, none⟩) b.size (grownCap w b.size 0 e)) (w' := Lib.bytesWorld w e b) ?_ (hK _ _ ?_)
        · have := Lib.run_convert_string_bytes (P := P) w src dst e b hu hv he
          unfold execOp
          simp only [ho, hx.v_inv, this, Sem.run_bind, Result.andThen_ok, Sem.run_pure]
        · rw [hd]
          have hl := h.later (w' := Lib.bytesWorld w e b) (fun k hk => Lib.bytesWorld_at_old w e b k hk) (by rw [Lib.bytesWorld_size]; omega) (by simp [Lib.bytesWorld, World.freeze, World.alloc, World.drew, -World.alloc_eq, -World.drew_eq]) (by simp [Lib.bytesWorld, World.freeze, World.alloc, World.drew, -World.alloc_eq, -World.drew_eq]) (by simp [Lib.bytesWorld, World.freeze, World.alloc, World.drew, -World.alloc_eq, -World.drew_eq])
          have hkn := hl.know (tD d 0) htk w.heap.size (Lib.bytesCells w e b) e ⟨_, Lib.bytesWorld_at_new w e b, .inl (Nat.le_refl _)⟩ h.size (fun o => h.free (Nat.le_refl _) o) (fun b' _ e' => Nat.lt_irrefl _ (h.rlt b' _ e')) (fun t sp _ h2 e' => by have := (h.cap t sp h2).lt; omega) b.size (Lib.bytesCells w e b).size (by omega) (Nat.le_refl _)
          refine ⟨_, ρ, _, hkn.put (v := .list 1 (bytesL b) (some (tD d 0))) ?_ d⟩
          have hbl : (bytesL b).length = b.size := by simp [bytesL]
          have hcell : ∀ i, (hi : i < b.size) → (Lib.bytesCells w e b)[i]? = some (.int .u8 (b.data[i]'(by rw [ByteArray.size_data]; exact hi)).toNat) := fun i hi => by
            have hi' : i < b.data.size := by rw [ByteArray.size_data]; exact hi
            unfold Lib.bytesCells
            rw [Array.getElem?_append_left (by simpa using hi), Array.getElem?_map, Array.getElem?_eq_getElem hi']
            rfl
          refine .list (fun i _ => ((Lib.bytesCells w e b)[i]?).getD (.bool true)) hbl hge (fun i hi => by simp [bytesL]) (fun i j hi hj => ?_) (fun i j => ?_) (fun i j hi hj => ?_) (fun k hk => ?_)
          · rw [hbl] at hi
            have hj0 : j = 0 := by omega
            subst hj0
            have hlen : ((Lib.bytesCells w e b).toList.take b.size).length = b.size := by simp; omega
            unfold addC
            rw [if_pos ⟨rfl, by omega, by rw [hlen]; omega⟩, show 0 + i * 1 + 0 - 0 = i by omega, List.getElem?_take, if_pos hi]
            simp only [Array.getElem?_toList, hcell i hi, Option.getD_some]
          · cases hq : (Lib.bytesCells w e b)[i]? with
            | none => rfl
            | some v =>
              simp only [Option.getD_some]
              obtain ⟨q1, q2⟩ := Array.getElem?_eq_some_iff.1 hq
              rw [← q2]
              simp only [Lib.bytesCells, Array.getElem_append]
              split <;> simp [Value.oneCell']
          · rw [hbl] at hi
            have hj0 : j = 0 := by simpa [bytesL] using hj
            subst hj0
            simp only [hcell i hi, Option.getD_some]
            simp [bytesL]
            exact .v
          · cases hk
            refine .inr ⟨⟨w.heap.size, b.size, (Lib.bytesCells w e b).size⟩, by simp [updS], rfl, by simp, by simp [hcs]⟩
      · cases hs
    · cases hs
  · cases hs

end
end Go.Proofs.YtdmedeaknnldcaaGreatDoor
