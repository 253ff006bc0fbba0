/- Slices that are made and written: make, copy; and how they become lists. -/
import Derived.Test.YtecoemdhnphmdaaSymH
namespace Go.Proofs.Ytecoemdhnphmdaa
open Go.RowKit
set_option linter.unusedVariables false
set_option linter.unusedSimpArgs false
set_option linter.unnecessarySimpa false
def reps (z : List AV) (n : Nat) : List AV := match z with
  | [c] => List.replicate n c
  | z => (List.replicate n z).flatten
def makeOp (T : Tab) (s : AS) (d : Nat) (t : TypeId) (l c : Operand) : Option (List Wr) :=
  match T.u t with
  | some (.slice e) =>
    (match T.i e, T.z e, s.bx d with
    | some i, some z, none =>
      if z.length = i.1 ∧ 0 < i.1 ∧ 0 < i.2 ∧ d < s.box.length ∧ s.nin ≤ d then
        (match s.ev l, s.ev c with
        | .v (.int _ ln), .v (.int _ cp) => if 0 ≤ ln ∧ ln ≤ cp ∧ cp.toNat * i.2 ≤ maxBytes then some [.box d (reps z cp.toNat), .env d (.vs d ln.toNat i.1)] else none
        | _, _ => none)
      else none
    | _, _, _ => none)
  | _ => none
def copyOp (T : Tab) (s : AS) (dst : Option Nat) (t : TypeId) (x y : Operand) : Option (List Wr) :=
  match s.ev x with
  | .vs b len n =>
    (match T.u t with
    | some (.slice e) =>
    (match T.i e, s.ev y with
    | some i, .list m ys _ =>
      if n = i.1 ∧ m = i.1 ∧ 0 < i.1 then
        (match s.bx b with
        | some cs => if len * n ≤ cs.length then some (.box b (splice cs 0 ((ys.take (Nat.min ys.length len)).flatten)) :: (match dst with | some d => [.env d (.v (.int .i64 (Nat.min ys.length len : Nat)))] | none => [])) else none
        | none => none)
      else none
    | _, _ => none)
    | _ => none)
  | _ => none
theorem reps_eq (z : List AV) (n : Nat) : reps z n = (List.replicate n z).flatten := by
  unfold reps
  split
  · rename_i c
    induction n with
    | zero => rfl
    | succ n ih => rw [List.replicate_succ, List.replicate_succ, List.flatten_cons, ← ih]; rfl
  · rfl
theorem flatten_rep {α : Type} (z : List α) : ∀ (n : Nat), ((List.replicate n z).flatten).length = n * z.length ∧ ∀ j, j < n * z.length → ((List.replicate n z).flatten)[j]? = z[j % z.length]?
  | 0 => ⟨by simp, fun j h => by simp at h⟩
  | n + 1 => by
    obtain ⟨h1, h2⟩ := flatten_rep z n
    refine ⟨by simp, fun j hj => ?_⟩
    rw [List.replicate_succ, List.flatten_cons]
    by_cases hlt : j < z.length
    · rw [List.getElem?_append_left hlt, Nat.mod_eq_of_lt hlt]
    · have hj' := hj
      rw [Nat.add_mul, Nat.one_mul] at hj'
      rw [List.getElem?_append_right (by omega), h2 (j - z.length) (by omega)]
      congr 1
      exact (Nat.mod_eq_sub_mod (by omega)).symm
section
variable {P : Program} {T : Tab} {B : Base} {M : Mem} {ρ : Rho} {σ : Sig} {s : AS} {a : Act} {w : World}
theorem Src.flat {sz g off : Nat} {xs : List (List AV)} {cf : Nat → Nat → Value} : ∀ (xs : List (List AV)) (cf : Nat → Nat → Value), (∀ i (h : i < xs.length), (xs[i]).length = sz) → (∀ i j (h : i < xs.length) (h' : j < (xs[i]).length), Rd M rho0 sig0 (cf i j) ((xs[i])[j])) →
    xs.flatten.length = xs.length * sz ∧ ∀ q (h : q < xs.flatten.length), Rd M rho0 sig0 (cf (q / sz) (q % sz)) xs.flatten[q]
  | [], cf, _, _ => ⟨by simp, fun q h => by simp at h⟩
  | x :: xs, cf, hn, hr => by
    have hx : x.length = sz := hn 0 (by simp)
    obtain ⟨h1, h2⟩ := Src.flat xs (fun i j => cf (i + 1) j) (fun i h => hn (i + 1) (by simp; omega)) (fun i j h h' => hr (i + 1) j (by simp; omega) (by simpa using h')) (sz := sz) (g := g) (off := off) (xs := xs) (cf := cf)
    refine ⟨by rw [List.flatten_cons, List.length_append, h1, hx, List.length_cons, Nat.add_mul]; omega, fun q hq => ?_⟩
    simp only [List.flatten_cons]
    by_cases hlt : q < x.length
    · rw [List.getElem_append_left hlt]
      have e1 : q / sz = 0 := Nat.div_eq_of_lt (by omega)
      have e2 : q % sz = q := Nat.mod_eq_of_lt (by omega)
      rw [e1, e2]
      exact hr 0 q (by simp) hlt
    · have hle : x.length ≤ q := by omega
      rw [List.getElem_append_right hle]
      rw [List.flatten_cons, List.length_append] at hq
      have := h2 (q - x.length) (by omega)
      have hs0 : 0 < sz := by
        rcases Nat.eq_zero_or_pos sz with h0 | h0
        · have : xs.flatten.length = 0 := by rw [h1, h0]; omega
          omega
        · exact h0
      have e1 : q / sz = (q - x.length) / sz + 1 := by rw [hx]; exact Nat.div_eq_sub_div hs0 (by omega)
      have e2 : q % sz = (q - x.length) % sz := by rw [hx]; exact Nat.mod_eq_sub_mod (by omega)
      rw [e1, e2]
      exact this
theorem make_ok (hT : TabOk P T) (h : SimW B M ρ σ s a w) {o : Oper} {d : Nat} {t : TypeId} {l c : Operand} (ho : o.op = .makeSlice t l c) (hd : o.dst = some d) {W : List Wr} (hs : makeOp T s d t l c = some W) (K : Act → World → Prop) (Q : Exit → Act → World → Prop) (hK : ∀ a' w', Sim B (s.aps W) a' w' → K a' w') : o.wp P a w K Q := by
  unfold makeOp at hs
  have hl := h.ev l
  have hc := h.ev c
  split at hs
  · rename_i e hu
    replace hu := hT.u _ _ hu
    split at hs
    · rename_i p z hi hz hb
      obtain ⟨i, hi, hp1, hp2⟩ := hT.i _ _ hi
      rw [← hp1, ← hp2] at hs
      split at hs
      · rename_i hcond
        obtain ⟨c1, c2, c3, c4, c5⟩ := hcond
        split at hs
        · rename_i k ln k' cp hle hce
          rw [hle] at hl
          rw [hce] at hc
          split at hs
          · rename_i hbd
            obtain ⟨b1, b2, b3⟩ := hbd
            cases hs
            obtain ⟨zv, z1, z2, -⟩ := zeroCells_ok hT hz
            obtain ⟨p1, p2, p3⟩ := z2 M ρ σ
            have zsz : zv.cells.size = i.size := by omega
            have hcp : cp.toNat * 1 ≤ cp.toNat * i.bytes := Nat.mul_le_mul_left _ c3
            unfold maxBytes at b3
            have wl : IntKind.i64.wrap ln = ln := IntWalk.i64_in _ (by omega)
            have wc : IntKind.i64.wrap cp = cp := IntWalk.i64_in _ (by omega)
            obtain ⟨f1, f2⟩ := flatten_rep z cp.toNat
            have hpw : Pw M ρ σ ((Array.range (cp.toNat * i.size)).map (zv.cells[· % zv.cells.size]!)) (reps z cp.toNat) := by
              rw [reps_eq]
              refine ⟨by simp [f1, c1], fun j hj => ?_, fun j hj hj' => ?_⟩
              · have : j % i.size < zv.cells.size := by rw [zsz]; exact Nat.mod_lt _ c2
                simp only [Array.getElem_map, Array.getElem_range, zsz]
                rw [getElem!_pos zv.cells (j % i.size) this]; exact p2 _ _
              · have q1 : j % i.size < zv.cells.size := by rw [zsz]; exact Nat.mod_lt _ c2
                have q2 : j % i.size < z.length := by omega
                simp only [Array.getElem_map, Array.getElem_range, zsz]
                rw [getElem!_pos zv.cells (j % i.size) q1]
                have e1 := f2 j (by rw [← f1]; exact hj')
                rw [List.getElem?_eq_getElem hj', c1, List.getElem?_eq_getElem q2] at e1
                rw [Option.some.inj e1]
                exact p3 _ _ _
            refine wp_val (v := .slice (some ⟨w.heap.size, 0, none⟩) ln.toNat cp.toNat) (w' := w.alloc (.cells ((Array.range (cp.toNat * i.size)).map (zv.cells[· % zv.cells.size]!)) e)) ?_ (hK _ _ ?_)
            · unfold execOp
              simp only [ho, hl.v_inv, hc.v_inv, Instr.makeSlice, asInt, asIntOf, Sem.run_bind, Sem.run_pure, Result.andThen_ok, run_underlying' hu, run_typeInfo' hi, wl, wc]
              have t1 : ((decide (cp < 0) || decide ((i.bytes : Int) * cp > 2 ^ 48)) || decide (ln < 0) || decide (ln > cp)) = false := by
                have : (i.bytes : Int) * cp ≤ 140737488351232 := by
                  have e1 : ((cp.toNat * i.bytes : Nat) : Int) = (i.bytes : Int) * cp := by
                    rw [Int.natCast_mul, Int.toNat_of_nonneg (by omega), Int.mul_comm]
                  omega
                simp
                omega
              simp only [t1, Bool.false_eq_true, if_false, Sem.run_bind, Sem.run_pure, Result.andThen_ok]
              have ar : ∀ n w, (askRoom n).run P w = .ok () w := fun n w => by unfold askRoom; split <;> rfl
              simp only [ar, Result.andThen_ok, run_sizeOf' hi, Sem.run_bind, Sem.run_pure]
              by_cases h0 : cp.toNat * i.size = 0
              · simp only [h0, if_true, Sem.run_pure, Result.andThen_ok, newRow]
                have e0 : ∀ (f g : Nat → Value), (Array.range 0).map f = (Array.range 0).map g := fun f g => by simp
                simp
                rw [e0]
              · simp only [h0, if_false, z1, Sem.run_bind, Sem.run_pure, Result.andThen_ok, newRow]
                simp
            · rw [hd]
              refine ⟨M, _, σ, (h.newbox d c4 c5 hb _ e _ hpw.1 hpw.2.1 hpw.2.2).put (.vs (by simp [updR]) (by omega)) d⟩
          · cases hs
        · cases hs
      · cases hs
    · cases hs
  · cases hs
theorem copy_core (hT : TabOk P T) (h : SimW B M ρ σ s a w) {o : Oper} {t e : TypeId} {x y : Operand} (ho : o.op = .call { callee := .builtin .copy, args := #[x, y], argTypes := #[t, t] }) (run : ∀ c w', (Builtin.copy_ #[t, t] o.type #[a.eval x, a.eval y]).run P w = .ok c w' → (execOp a.eval o).run P w = .ok (.value c) w') (hx : Rd M ρ σ (a.eval x) (s.ev x)) (hy : Rd M ρ σ (a.eval y) (s.ev y)) (hu : P.underlying t = some (.slice e)) {p : Nat × Nat} {b len n m : Nat} {ys : List (List AV)} {tk : Option Nat} (hi : T.i e = some p) (hxe : s.ev x = .vs b len n) (hye : s.ev y = .list m ys tk) {W : List Wr} {K : Act → World → Prop} {Q : Exit → Act → World → Prop} (hs : (if n = p.1 ∧ m = p.1 ∧ 0 < p.1 then
        (match s.bx b with
        | some cs => if len * n ≤ cs.length then some (Wr.box b (splice cs 0 ((ys.take (Nat.min ys.length len)).flatten)) :: (match o.dst with | some d => [Wr.env d (.v (.int .i64 (Nat.min ys.length len : Nat)))] | none => [])) else none
        | none => none)
      else none) = some W) (hK : ∀ a' w', Sim B (s.aps W) a' w' → K a' w') : o.wp P a w K Q := by
  obtain ⟨i, hi, hp1, hp2⟩ := hT.i _ _ hi
  rw [← hp1] at hs
  rw [hxe] at hx
  rw [hye] at hy
  split at hs
  · rename_i hc
    obtain ⟨rfl, rfl, c3⟩ := hc
    split at hs
    · rename_i cs hcs
      split at hs
      · rename_i hfit
        cases hs
        generalize hq : a.eval x = xv at hx
        cases hx with
        | @vs _ _ _ g _ cap _ hg hcap =>
          -- what is copied
          have hsrc : ∃ (vals : List Value), (Builtin.firstCells i.size (Nat.min ys.length len) (a.eval y)).run P w = .ok vals.toArray w ∧ (Builtin.lenOf (a.eval y)).run P w = .ok ys.length w ∧ vals.length = ((ys.take (Nat.min ys.length len)).flatten).length ∧ (∀ j (hj : j < vals.length), (vals[j]).oneCell' = true) ∧ (∀ j (hj : j < vals.length) (hj' : j < ((ys.take (Nat.min ys.length len)).flatten).length), Rd M ρ σ vals[j] ((ys.take (Nat.min ys.length len)).flatten)[j]) := by
            generalize a.eval y = yv at hy
            cases hy with
            | nil => exact ⟨[], by simp [Builtin.firstCells], by simp [Builtin.lenOf], by simp, fun j hj => by simp at hj, fun j hj => by simp at hj⟩
            | @list _ _ g2 off2 len2 cap2 _ _ _ cf e1 e2 e3 e4 e5 e6 e7 =>
              have hmin : Nat.min ys.length len ≤ ys.length := Nat.min_le_left _ _
              have hlen : (ys.take (Nat.min ys.length len)).length = Nat.min ys.length len := by rw [List.length_take]; exact Nat.min_eq_left hmin
              have hget : ∀ k (hk : k < (ys.take (Nat.min ys.length len)).length), (ys.take (Nat.min ys.length len))[k] = ys[k]'(by omega) := fun k hk => by simp
              obtain ⟨q1, q2⟩ := Src.flat (M := M) (sz := i.size) (g := g2) (off := off2) (xs := ys) (cf := cf) (ys.take (Nat.min ys.length len)) cf (fun k hk => by rw [hget k hk]; exact e3 _ _) (fun k j hk hj => by
                have := e6 k j (by omega) (by rw [← hget k hk]; exact hj)
                simp only [hget k hk]; exact this)
              have src : Src M w i.size g2 off2 (ys.take (Nat.min ys.length len)) cf := ⟨fun k hk => by rw [hget k hk]; exact e3 _ _, fun k j hk hj => e4 k j (by omega) hj, e5, fun k j hk hj => by
                have := e6 k j (by omega) (by rw [← hget k hk]; exact hj)
                simp only [hget k hk]; exact this⟩
              have hcells := src.cells c3 h.mem
              rw [hlen] at hcells
              refine ⟨flatv (Nat.min ys.length len) i.size cf, ?_, by simp [Builtin.lenOf, e1], by rw [flatv_length, q1, hlen], fun j hj => flatv_one e5 _ (List.getElem_mem _), fun j hj hj' => ?_⟩
              · have := run_loadCells_list (P := P) w ⟨g2, off2, none⟩ (flatv (Nat.min ys.length len) i.size cf) hcells
                rw [flatv_length] at this
                simp [Builtin.firstCells, this]
              · have hj2 := hj
                rw [flatv_length] at hj2
                have e : (flatv (Nat.min ys.length len) i.size cf)[j] = cf (j / i.size) (j % i.size) := by
                  have := flatv_get (n := Nat.min ys.length len) (sz := i.size) (cf := cf) hj2
                  rw [List.getElem?_eq_getElem hj] at this
                  exact Option.some.inj this
                rw [e]
                exact (q2 j hj').of0
          obtain ⟨vals, s1, s2, s3, s4, s5⟩ := hsrc
          obtain ⟨g', hg', ⟨ccs, ty, r1, r2, r3, r4⟩, r5, r6⟩ := h.box b cs hcs
          rw [hg] at hg'
          cases hg'
          have hvl : vals.length ≤ len * i.size := by
            rw [s3]
            have hl := hy
            have : ((ys.take (Nat.min ys.length len)).flatten).length = (ys.take (Nat.min ys.length len)).length * i.size := by
              generalize a.eval y = yv at hl
              cases hl with
              | nil => simp
              | @list _ _ g2 off2 len2 cap2 _ _ _ cf e1 e2 e3 e4 e5 e6 e7 =>
                exact (Src.flat (M := M) (sz := i.size) (g := g2) (off := off2) (xs := ys) (cf := cf) (ys.take (Nat.min ys.length len)) cf (fun k hk => by
                  have : (ys.take (Nat.min ys.length len))[k] = ys[k]'(by rw [List.length_take] at hk; omega) := by simp
                  rw [this]; exact e3 _ _) (fun k j hk hj => by
                  have e : (ys.take (Nat.min ys.length len))[k] = ys[k]'(by rw [List.length_take] at hk; omega) := by simp
                  have := e6 k j (by rw [List.length_take] at hk; omega) (by rw [← e]; exact hj)
                  simp only [e]; exact this)).1
            rw [this]
            refine Nat.mul_le_mul_right _ ?_
            rw [List.length_take]
            have := Nat.min_le_right ys.length len
            exact Nat.le_trans (Nat.min_le_left _ _) this
          have hst := run_storeCells_cells (P := P) g 0 vals 0 w (fun j hj => by
            rw [cell_row r1, Array.getElem?_eq_getElem (by omega)]; rfl) (fun j hj => by simp [World.frozen?, r1]) (fun v hv => by
            obtain ⟨j, hj, e⟩ := List.getElem_of_mem hv
            rw [← e]; exact s4 j hj)
          simp only [Nat.add_zero] at hst
          have hstore := h.store b g cs hcs hg 0 vals ((ys.take (Nat.min ys.length len)).flatten) s3 (by omega) s4 s5
          refine wp_val (v := .int .i64 (Nat.min ys.length len : Nat)) (w' := w.setCells g 0 vals) (run _ _ ?_) (hK _ _ ?_)
          · rw [hq]
            simp only [Builtin.copy_, Sem.run_bind, Sem.run_pure, Result.andThen_ok, run_underlying' hu, s2, run_sizeOf' hi, s1]
            simp [run_underlying' hu, s2, run_sizeOf' hi, s1, hst]
            rfl
          · cases hd : o.dst with
            | none => exact ⟨M, ρ, σ, hstore⟩
            | some d => exact ⟨M, ρ, σ, hstore.put .v d⟩
      · cases hs
    · cases hs
  · cases hs
theorem copy_ok (hT : TabOk P T) (h : SimW B M ρ σ s a w) {o : Oper} {t : TypeId} {x y : Operand} (ho : o.op = .call { callee := .builtin .copy, args := #[x, y], argTypes := #[t, t] }) {W : List Wr} (hs : copyOp T s o.dst t x y = some W) (K : Act → World → Prop) (Q : Exit → Act → World → Prop) (hK : ∀ a' w', Sim B (s.aps W) a' w' → K a' w') : o.wp P a w K Q := by
  unfold copyOp at hs
  have hx := h.ev x
  have hy := h.ev y
  have run : ∀ c w', (Builtin.copy_ #[t, t] o.type #[a.eval x, a.eval y]).run P w = .ok c w' → (execOp a.eval o).run P w = .ok (.value c) w' := fun c w' hc => by
    unfold execOp
    simp only [ho, resolve, Sem.run_bind, Sem.run_pure, Result.andThen_ok, invoke, builtin]
    simp [hc]
  split at hs
  · rename_i b len n hxe
    split at hs
    · rename_i e hu
      replace hu := hT.u _ _ hu
      split at hs
      · rename_i p m ys tk hi hye
        exact copy_core hT h ho run hx hy hu hi hxe hye hs hK
      · cases hs
    · cases hs
  · cases hs
end
end Go.Proofs.Ytecoemdhnphmdaa
