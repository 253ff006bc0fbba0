/- Slices that are made and written: make, copy; and how they become lists. -/
import Derived.Test.YtdmedeaknnldcaaGreatDoorSymH
namespace Go.Proofs.YtdmedeaknnldcaaGreatDoor
open Go.RowKit
set_option linter.unusedVariables false
set_option linter.unusedSimpArgs false
set_option linter.unnecessarySimpa false
def reps (z : List AV) (n : Nat) : List AV := match z with
  | [c] => List.replicate n c
  | z => (List.replicate n z).flatten
def makeOp (T : Tab) (s : AS) (d : Nat) (t : TypeId) (l c : Operand) : Option (List Wr) :=
  match T.u t with
  | some (.slice e) =>
    (match T.i e, T.z e, s.bx d, s.tk (vk d) with
    | some i, some z, none, none =>
      if z.length = i.1 ∧ 0 < i.1 ∧ 0 < i.2 ∧ s.nin ≤ d then
        (match s.ev l, s.ev c with
        | .v (.int _ ln), .v (.int _ cp) => if 0 ≤ ln ∧ ln ≤ cp ∧ cp.toNat * i.2 ≤ maxBytes then (bif T.bm d then (match s.tk (tD d 0) with | none => some [.box d (some (reps z ln.toNat)), .tok (vk d) false, .tok (vm d) false, .box d none, .tok (tD d 0) true, .env d (.list i.1 (chunks ((reps z ln.toNat).take (ln.toNat * i.1)) i.1 ln.toNat) (some (tD d 0)))] | some _ => none) else some [.box d (some (reps z ln.toNat)), .tok (vk d) false, .tok (vm d) false, .env d (.vs d 0 ln.toNat i.1)]) else none
        | _, _ => none)
      else none
    | _, _, _, _ => none)
  | _ => none
section
variable {P : Program} {T : Tab} {B : Base} {M M' : Mem} {ρ ρ' : Rho} {σ σ' : Sig} {s : AS} {a : Act} {w : World}
/-- The variable is given up; its slice reads as a list. -/
theorem SimW.fz (h : SimW B M ρ σ s a w) {b L n : Nat} {cs : List AV} (hb : s.bx b = some cs) (hni : s.nin ≤ b) (htk : s.tk (tD b 0) = none) (hvk : s.tk (vk b) ≠ none) (hn : 0 < n) (hL : L * n ≤ cs.length) {c : Value} (hc : Rd M ρ σ c (.vs b 0 L n)) :
    ∃ M' σ', SimW B M' ρ σ' ((s.ap (.box b none)).ap (.tok (tD b 0) true)) a w ∧ (∀ c v, Rd M ρ σ c v → Rd M' ρ σ' c v) ∧ Rd M' ρ σ' c (.list n (chunks (cs.take (L * n)) n L) (some (tD b 0))) := by
  have hdr := h.drop b hvk
  cases hc with
  | vsn => exact ⟨M, σ, hdr.tokfree (tD b 0) htk, fun _ _ h => h, by simpa [chunks] using Rd.nil⟩
  | vse =>
    refine ⟨M, σ, hdr.tokfree (tD b 0) htk, fun _ _ h => h, ?_⟩
    simp only [chunks]
    exact .list (fun _ _ => .bool true) rfl (Nat.le_refl _) (fun i h => by cases h) (fun i j h => by cases h) (fun _ _ => rfl) (fun i j h => by cases h) (fun k _ => .inl rfl)
  | @vs _ _ _ g _ _ cap _ hg hlc hcap =>
    obtain ⟨sp, p1, p2, p3⟩ := hcap
    rw [Nat.zero_add] at p3
    rcases h.box b cs hb with ⟨-, e⟩ | ⟨g', hg', ⟨ccs, ty, r1, r2, r3, r4⟩, r5, -⟩
    · rw [hg] at e; cases e
    rw [hg] at hg'
    cases hg'
    have hbase : B.w0.heap.size ≤ g := h.fresh b g hni hg
    obtain ⟨ccs0, ty0, w1, w2⟩ := h.cap _ _ p1
    rw [p2] at w1
    obtain ⟨rfl, rfl⟩ := r1.uniq w1
    have hnob : ∀ b', (s.ap (.box b none)).bx b' ≠ none → ρ b' ≠ some g := fun b' hb' e => by
      rw [AS.bx_set] at hb'
      by_cases eb : b' = b
      · rw [if_pos eb] at hb'; exact hb' rfl
      · rw [if_neg eb] at hb'; exact eb (h.inj b' b g hb' (bx_ne hb) e hg)
    have hnot : ∀ t' sp', (s.ap (.box b none)).tk t' = some true → σ t' = some sp' → sp'.g ≠ g := fun t' sp' h1 h2 e => (h.tok t' sp' h1 h2).2.2.2 b (bx_ne hb) (e ▸ hg)
    have hle : L * n ≤ cap * n := Nat.mul_le_mul_right _ hlc
    have hk := hdr.know (tD b 0) htk g ccs ty r1 hbase r5 hnob hnot (L * n) sp.hi (by omega) w2
    have hsd := hdr.snone htk
    have up : ∀ c v, Rd M ρ σ c v → Rd (addC M g 0 (ccs.toList.take (L * n))) ρ (updS σ (tD b 0) ⟨g, L * n, sp.hi⟩) c v := fun c v hr => hr.mono (addC_sub fun o _ _ => r5 o) _ _ (fun _ _ h => h) (updS_up hsd)
    refine ⟨_, _, hk, up, ?_⟩
    have hcl : (cs.take (L * n)).length = L * n := by simp; omega
    have hidx : ∀ i' j, i' < L → j < n → i' * n + j < L * n := fun i' j h1 h2 => by
      have := Nat.mul_le_mul_right n (Nat.succ_le_of_lt h1)
      rw [Nat.succ_mul] at this; omega
    rw [Nat.zero_mul]
    refine .list (fun i' j => if i' < L ∧ j < n then (ccs[i' * n + j]?).getD (.bool true) else .bool true) (chunks_length _ _ _) hlc (fun i' hi' => (chunks_get _ _ _ _ hi' hcl).1) (fun i' j h1 h2 => ?_) (fun i' j => ?_) (fun i' j h1 h2 => ?_) (fun k hk => .inr ⟨_, by cases hk; simp [updS]; rfl, rfl, by simp, by simp; omega⟩)
    · rw [chunks_length] at h1
      have hx := hidx i' j h1 h2
      unfold addC
      rw [if_pos ⟨rfl, by omega, by simp; omega⟩]
      rw [show 0 + i' * n + j - 0 = i' * n + j by omega]
      rw [if_pos ⟨h1, h2⟩, Array.getElem?_eq_getElem (by omega)]
      rw [List.getElem?_take, if_pos hx]
      simp
    · split
      · rename_i hx
        have hx := hidx i' j hx.1 hx.2
        rw [Array.getElem?_eq_getElem (by omega)]
        exact r3 _ _ (by omega)
      · rfl
    · obtain ⟨q1, q2⟩ := chunks_get _ _ _ _ h1 hcl
      have h1' := h1
      rw [chunks_length] at h1'
      have h2' : j < n := by rw [← q1]; exact h2
      have hx := hidx i' j h1' h2'
      rw [q2 j h2 (by omega), if_pos ⟨h1', h2'⟩, Array.getElem?_eq_getElem (by omega)]
      simp only [Option.getD_some, List.getElem_take]
      exact Rd.dat0 (up _ _ (r4 _ _ _))
/-- A new variable that is a list at once. -/
theorem newvl_put (h : SimW B M ρ σ s a w) (d : Nat) (hd : s.nin ≤ d) (hf : s.bx d = none) (ht : s.tk (vk d) = none) (htd : s.tk (tD d 0) = none) (ccs : Array Value) (t : TypeId) (cs : List AV) (hl : cs.length ≤ ccs.size) (h1 : ∀ i (h : i < ccs.size), i < cs.length → (ccs[i]).oneCell' = true) (hr : ∀ i (h : i < ccs.size) (h' : i < cs.length), Rd M ρ σ ccs[i] cs[i]) (len cap n : Nat) (hn : 0 < n) (hcs : len * n ≤ cs.length) (hlc : len ≤ cap) (hcap : cap * n = ccs.size) :
    Sim B (s.aps [.box d (some cs), .tok (vk d) false, .tok (vm d) false, .box d none, .tok (tD d 0) true, .env d (.list n (chunks (cs.take (len * n)) n len) (some (tD d 0)))]) (a.put (some d) (.slice (some ⟨w.heap.size, 0, none⟩) len cap)) (w.alloc (.cells ccs t)) := by
  have h2 := h.newbox d hd hf ht ccs t cs hl h1 hr
  have h3 := h2.setcap (vk d) ht ⟨w.heap.size, 0, ccs.size⟩ ⟨ccs, t, At.new w _ _, Nat.le_refl _⟩
  have h4 := h3.tokdead (vm d)
  have rv := Rd.vs (M := M) (ρ := updR ρ d w.heap.size) (σ := updS σ (vk d) ⟨w.heap.size, 0, ccs.size⟩) (b := d) (g := w.heap.size) (off := 0) (len := len) (cap := cap) (n := n) (by simp [updR]) hlc ⟨⟨w.heap.size, 0, ccs.size⟩, by simp [updS], rfl, by simpa using hcap⟩
  rw [Nat.zero_mul] at rv
  have hd1 : vk d ≠ tD d 0 := by unfold vk tD; omega
  have hd2 : vm d ≠ tD d 0 := by unfold vm vk tD; omega
  have hd3 : vm d ≠ vk d := by unfold vm; omega
  have tk3 : ∀ k, k ≠ vk d → k ≠ vm d → (((s.ap (.box d (some cs))).ap (.tok (vk d) false)).ap (.tok (vm d) false)).tk k = s.tk k := fun k q1 q2 => by
    show List.lookup k ((vm d, false) :: (vk d, false) :: s.tok) = List.lookup k s.tok
    rw [List.lookup_cons, List.lookup_cons, show (k == vm d) = false by simpa using q2, show (k == vk d) = false by simpa using q1]
  have bx3 : (((s.ap (.box d (some cs))).ap (.tok (vk d) false)).ap (.tok (vm d) false)).bx d = some cs := by
    show (s.ap (.box d (some cs))).bx d = some cs
    rw [AS.bx_set, if_pos rfl]
  have vk3 : (((s.ap (.box d (some cs))).ap (.tok (vk d) false)).ap (.tok (vm d) false)).tk (vk d) ≠ none := by
    show List.lookup (vk d) ((vm d, false) :: (vk d, false) :: s.tok) ≠ none
    rw [List.lookup_cons, List.lookup_cons, show (vk d == vm d) = false by simpa using hd3.symm]
    simp
  obtain ⟨M', σ', q1, -, q3⟩ := h4.fz bx3 hd ((tk3 _ hd1.symm hd2.symm).trans htd) vk3 hn hcs rv
  exact ⟨M', _, σ', q1.put q3 d⟩
end
/-- What a copy reads: how many there are, and the cells of those that go over. -/
def copySrc (s : AS) (n len : Nat) (y : AV) : Option (Nat × List AV) :=
  match y with
  | .list m ys _ => if m = n then some (ys.length, (ys.take (Nat.min ys.length len)).flatten) else none
  | .vs b2 off2 len2 m =>
    if m = n then
      (match s.bx b2 with
      | some cs2 => if (off2 + len2) * n ≤ cs2.length then some (len2, (cs2.drop (off2 * n)).take (Nat.min len2 len * n)) else none
      | none => none)
    else none
  | _ => none
def copyOp (T : Tab) (s : AS) (dst : Option Nat) (t : TypeId) (x y : Operand) : Option (List Wr) :=
  match s.ev x with
  | .vs b off len n =>
    (match T.u t with
    | some (.slice e) =>
    (match T.i e, copySrc s n len (s.ev y) with
    | some i, some q =>
      if n = i.1 ∧ 0 < i.1 then
        (match s.bx b with
        | some cs => if (off + len) * n ≤ cs.length then some (.box b (some (splice cs (off * n) q.2)) :: (match dst with | some d => [.env d (.v (.int .i64 (Nat.min q.1 len : Nat)))] | none => [])) else none
        | none => none)
      else none
    | _, _ => none)
    | _ => none)
  | _ => none
theorem reps_eq (z : List AV) (n : Nat) : reps z n = (List.replicate n z).flatten := by
  unfold reps
  split
  · rename_i c
    induction n with
    | zero => rfl
    | succ n ih => rw [List.replicate_succ, List.replicate_succ, List.flatten_cons, ← ih]; rfl
  · rfl
theorem flatten_rep {α : Type} (z : List α) : ∀ (n : Nat), ((List.replicate n z).flatten).length = n * z.length ∧ ∀ j, j < n * z.length → ((List.replicate n z).flatten)[j]? = z[j % z.length]?
  | 0 => ⟨by simp, fun j h => by simp at h⟩
  | n + 1 => by
    obtain ⟨h1, h2⟩ := flatten_rep z n
    refine ⟨by simp, fun j hj => ?_⟩
    rw [List.replicate_succ, List.flatten_cons]
    by_cases hlt : j < z.length
    · rw [List.getElem?_append_left hlt, Nat.mod_eq_of_lt hlt]
    · have hj' := hj
      rw [Nat.add_mul, Nat.one_mul] at hj'
      rw [List.getElem?_append_right (by omega), h2 (j - z.length) (by omega)]
      congr 1
      exact (Nat.mod_eq_sub_mod (by omega)).symm
section
variable {P : Program} {T : Tab} {B : Base} {M : Mem} {ρ : Rho} {σ : Sig} {s : AS} {a : Act} {w : World}
theorem make_ok (hT : TabOk P T) (h : SimW B M ρ σ s a w) {o : Oper} {d : Nat} {t : TypeId} {l c : Operand} (ho : o.op = .makeSlice t l c) (hd : o.dst = some d) {W : List Wr} (hs : makeOp T s d t l c = some W) (K : Act → World → Prop) (Q : Exit → Act → World → Prop) (hK : ∀ a' w', Sim B (s.aps W) a' w' → K a' w') : o.wp P a w K Q := by
  unfold makeOp at hs
  have hl := h.ev l
  have hc := h.ev c
  split at hs
  · rename_i e hu
    replace hu := hT.u _ _ hu
    split at hs
    · rename_i p z hi hz hb hv
      obtain ⟨i, hi, hp1, hp2⟩ := hT.i _ _ hi
      rw [← hp1, ← hp2] at hs
      split at hs
      · rename_i hcond
        obtain ⟨c1, c2, c3, c5⟩ := hcond
        split at hs
        · rename_i k ln k' cp hle hce
          rw [hle] at hl
          rw [hce] at hc
          split at hs
          · rename_i hbd
            obtain ⟨b1, b2, b3⟩ := hbd
            obtain ⟨zv, z1, z2, -⟩ := zeroCells_ok hT hz
            obtain ⟨p1, p2, p3⟩ := z2 M ρ σ
            have zsz : zv.cells.size = i.size := by omega
            have hcp : cp.toNat * 1 ≤ cp.toNat * i.bytes := Nat.mul_le_mul_left _ c3
            unfold maxBytes at b3
            have wl : IntKind.i64.wrap ln = ln := IntWalk.i64_in _ (by omega)
            have wc : IntKind.i64.wrap cp = cp := IntWalk.i64_in _ (by omega)
            obtain ⟨f1, f2⟩ := flatten_rep z ln.toNat
            have hlc : ln.toNat ≤ cp.toNat := by omega
            have hle : ln.toNat * i.size ≤ cp.toNat * i.size := Nat.mul_le_mul_right _ hlc
            have hsz : ((Array.range (cp.toNat * i.size)).map (zv.cells[· % zv.cells.size]!)).size = cp.toNat * i.size := by simp
            have hrl : (reps z ln.toNat).length = ln.toNat * i.size := by rw [reps_eq, f1, c1]
            have hpw : (∀ j (hj : j < ((Array.range (cp.toNat * i.size)).map (zv.cells[· % zv.cells.size]!)).size), (((Array.range (cp.toNat * i.size)).map (zv.cells[· % zv.cells.size]!))[j]).oneCell' = true) ∧ ∀ j (hj : j < ((Array.range (cp.toNat * i.size)).map (zv.cells[· % zv.cells.size]!)).size) (hj' : j < (reps z ln.toNat).length), Rd M ρ σ ((Array.range (cp.toNat * i.size)).map (zv.cells[· % zv.cells.size]!))[j] (reps z ln.toNat)[j] := by
              simp only [reps_eq]
              refine ⟨fun j hj => ?_, fun j hj hj' => ?_⟩
              · have : j % i.size < zv.cells.size := by rw [zsz]; exact Nat.mod_lt _ c2
                simp only [Array.getElem_map, Array.getElem_range, zsz]
                rw [getElem!_pos zv.cells (j % i.size) this]; exact p2 _ _
              · have q1 : j % i.size < zv.cells.size := by rw [zsz]; exact Nat.mod_lt _ c2
                have q2 : j % i.size < z.length := by omega
                simp only [Array.getElem_map, Array.getElem_range, zsz]
                rw [getElem!_pos zv.cells (j % i.size) q1]
                have e1 := f2 j (by rw [← f1]; exact hj')
                rw [List.getElem?_eq_getElem hj', c1, List.getElem?_eq_getElem q2] at e1
                rw [Option.some.inj e1]
                exact p3 _ _ _
            refine wp_val (v := .slice (some ⟨w.heap.size, 0, none⟩) ln.toNat cp.toNat) (w' := w.alloc (.cells ((Array.range (cp.toNat * i.size)).map (zv.cells[· % zv.cells.size]!)) e)) ?_ (hK _ _ ?_)
            · unfold execOp
              simp only [ho, hl.v_inv, hc.v_inv, Instr.makeSlice, asInt, asIntOf, Sem.run_bind, Sem.run_pure, Result.andThen_ok, run_underlying' hu, run_typeInfo' hi, wl, wc]
              have t1 : ((decide (cp < 0) || decide ((i.bytes : Int) * cp > 2 ^ 48)) || decide (ln < 0) || decide (ln > cp)) = false := by
                have : (i.bytes : Int) * cp ≤ 140737488351232 := by
                  have e1 : ((cp.toNat * i.bytes : Nat) : Int) = (i.bytes : Int) * cp := by
                    rw [Int.natCast_mul, Int.toNat_of_nonneg (by omega), Int.mul_comm]
                  omega
                simp
                omega
              simp only [t1, Bool.false_eq_true, if_false, Sem.run_bind, Sem.run_pure, Result.andThen_ok]
              have ar : ∀ n w, (askRoom n).run P w = .ok () w := fun n w => by unfold askRoom; split <;> rfl
              simp only [ar, Result.andThen_ok, run_sizeOf' hi, Sem.run_bind, Sem.run_pure]
              by_cases h0 : cp.toNat * i.size = 0
              · simp only [h0, if_true, Sem.run_pure, Result.andThen_ok, newRow]
                have e0 : ∀ (f g : Nat → Value), (Array.range 0).map f = (Array.range 0).map g := fun f g => by simp
                simp
                rw [e0]
              · simp only [h0, if_false, z1, Sem.run_bind, Sem.run_pure, Result.andThen_ok, newRow]
                simp
            · rw [hd]
              cases hbm : T.bm d with
              | false =>
                rw [hbm] at hs
                cases hs
                exact newvs_put h d c5 hb hv _ e _ (by rw [hsz, hrl]; exact hle) (fun j hj _ => hpw.1 j hj) hpw.2 ln.toNat cp.toNat i.size hlc hsz.symm
              | true =>
                rw [hbm] at hs
                cases htd : s.tk (tD d 0) with
                | some q => simp only [cond_true, htd] at hs; cases hs
                | none =>
                  simp only [cond_true, htd] at hs
                  cases hs
                  exact newvl_put h d c5 hb hv htd _ e _ (by rw [hsz, hrl]; exact hle) (fun j hj _ => hpw.1 j hj) hpw.2 ln.toNat cp.toNat i.size c2 (by rw [hrl]; exact Nat.le_refl _) hlc hsz.symm
          · cases hs
        · cases hs
      · cases hs
    · cases hs
  · cases hs
theorem copySrc_ok (h : SimW B M ρ σ s a w) {i : TypeInfo} (c3 : 0 < i.size) {len : Nat} {y : Operand} {q : Nat × List AV} (hq : copySrc s i.size len (s.ev y) = some q) :
    ∃ vals : List Value, (Builtin.firstCells i.size (Nat.min q.1 len) (a.eval y)).run P w = .ok vals.toArray w ∧ (Builtin.lenOf (a.eval y)).run P w = .ok q.1 w ∧ vals.length = q.2.length ∧ q.2.length = Nat.min q.1 len * i.size ∧ (∀ j (hj : j < vals.length), (vals[j]).oneCell' = true) ∧ ∀ j (hj : j < vals.length) (hj' : j < q.2.length), Rd M ρ σ vals[j] q.2[j] := by
  have hy := h.ev y
  unfold copySrc at hq
  split at hq
  · rename_i m ys tk hye
    rw [hye] at hy
    split at hq
    · rename_i hm
      subst hm
      cases hq
      generalize a.eval y = yv at hy
      cases hy with
      | nil => exact ⟨[], by simp [Builtin.firstCells], by simp [Builtin.lenOf], by simp, by simp, fun j hj => by simp at hj, fun j hj => by simp at hj⟩
      | @list _ _ g2 off2 len2 cap2 _ _ _ cf e1 e2 e3 e4 e5 e6 e7 =>
        have hmin : Nat.min ys.length len ≤ ys.length := Nat.min_le_left _ _
        have hlen : (ys.take (Nat.min ys.length len)).length = Nat.min ys.length len := by rw [List.length_take]; exact Nat.min_eq_left hmin
        have hget : ∀ k (hk : k < (ys.take (Nat.min ys.length len)).length), (ys.take (Nat.min ys.length len))[k] = ys[k]'(by omega) := fun k hk => by simp
        obtain ⟨q1, q2⟩ := Src.flat (M := M) (sz := i.size) (g := g2) (off := off2) (xs := ys) (cf := cf) (ys.take (Nat.min ys.length len)) cf (fun k hk => by rw [hget k hk]; exact e3 _ _) (fun k j hk hj => by
          have := e6 k j (by omega) (by rw [← hget k hk]; exact hj)
          simp only [hget k hk]; exact this)
        have src : Src M w i.size g2 off2 (ys.take (Nat.min ys.length len)) cf := ⟨fun k hk => by rw [hget k hk]; exact e3 _ _, fun k j hk hj => e4 k j (by omega) hj, e5, fun k j hk hj => by
          have := e6 k j (by omega) (by rw [← hget k hk]; exact hj)
          simp only [hget k hk]; exact this⟩
        have hcells := src.cells c3 h.mem
        rw [hlen] at hcells q1
        refine ⟨flatv (Nat.min ys.length len) i.size cf, ?_, by simp [Builtin.lenOf, e1], by rw [flatv_length, q1], q1, fun j hj => flatv_one e5 _ (List.getElem_mem _), fun j hj hj' => ?_⟩
        · have := run_loadCells_list (P := P) w ⟨g2, off2, none⟩ (flatv (Nat.min ys.length len) i.size cf) hcells
          rw [flatv_length] at this
          simp [Builtin.firstCells, this]
        · have hj2 := hj
          rw [flatv_length] at hj2
          have e : (flatv (Nat.min ys.length len) i.size cf)[j] = cf (j / i.size) (j % i.size) := by
            have := flatv_get (n := Nat.min ys.length len) (sz := i.size) (cf := cf) hj2
            rw [List.getElem?_eq_getElem hj] at this
            exact Option.some.inj this
          rw [e]
          exact (q2 j hj').of0
    · cases hq
  · rename_i b2 off2 len2 m hye
    rw [hye] at hy
    split at hq
    · rename_i hm
      subst hm
      split at hq
      · rename_i cs2 hcs2
        split at hq
        · rename_i hfit
          cases hq
          have hmin : Nat.min len2 len ≤ len2 := Nat.min_le_left _ _
          have hle : Nat.min len2 len * i.size ≤ len2 * i.size := Nat.mul_le_mul_right _ hmin
          rw [Nat.add_mul] at hfit
          have hl2 : ((cs2.drop (off2 * i.size)).take (Nat.min len2 len * i.size)).length = Nat.min len2 len * i.size := by
            rw [List.length_take, List.length_drop]
            exact Nat.min_eq_left (by omega)
          generalize a.eval y = yv at hy
          cases hy with
          | vsn =>
            have e0 : Nat.min 0 len = 0 := Nat.min_eq_left (Nat.zero_le _)
            refine ⟨[], by simp [Builtin.firstCells, e0], by simp [Builtin.lenOf], by rw [hl2, e0]; simp, hl2, fun j hj => by simp at hj, fun j hj => by simp at hj⟩
          | vse =>
            have e0 : Nat.min 0 len = 0 := Nat.min_eq_left (Nat.zero_le _)
            refine ⟨[], by simp [Builtin.firstCells, e0, loadCells, loadCellsFrom], by simp [Builtin.lenOf], by rw [hl2, e0]; simp, hl2, fun j hj => by simp at hj, fun j hj => by simp at hj⟩
          | @vs _ _ _ g _ _ cap _ hg hlc hcap =>
            rcases h.box b2 cs2 hcs2 with ⟨-, e⟩ | ⟨g', hg', ⟨ccs, ty, r1, r2, r3, r4⟩, r5, -⟩
            · rw [hg] at e; cases e
            rw [hg] at hg'
            cases hg'
            have hvl : ((ccs.toList.drop (off2 * i.size)).take (Nat.min len2 len * i.size)).length = Nat.min len2 len * i.size := by
              rw [List.length_take, List.length_drop, Array.length_toList]
              exact Nat.min_eq_left (by omega)
            refine ⟨(ccs.toList.drop (off2 * i.size)).take (Nat.min len2 len * i.size), ?_, by simp [Builtin.lenOf], by rw [hvl, hl2], hl2, fun j hj => ?_, fun j hj hj' => ?_⟩
            · have := run_loadCells_list (P := P) w ⟨g, off2 * i.size, none⟩ ((ccs.toList.drop (off2 * i.size)).take (Nat.min len2 len * i.size)) (fun j v hv => by
                rw [Addr.add_mid, cell_row r1]
                rw [List.getElem?_take] at hv
                split at hv
                · rw [List.getElem?_drop] at hv
                  simpa using hv
                · cases hv)
              rw [hvl] at this
              simp [Builtin.firstCells, this]
            · rw [hvl] at hj
              simp only [List.getElem_take, List.getElem_drop, Array.getElem_toList]
              exact r3 _ _ (by omega)
            · rw [hvl] at hj
              simp only [List.getElem_take, List.getElem_drop, Array.getElem_toList]
              exact r4 _ _ _
        · cases hq
      · cases hq
    · cases hq
  · cases hq
theorem copy_ok (hT : TabOk P T) (h : SimW B M ρ σ s a w) {o : Oper} {t : TypeId} {x y : Operand} (ho : o.op = .call { callee := .builtin .copy, args := #[x, y], argTypes := #[t, t] }) {W : List Wr} (hs : copyOp T s o.dst t x y = some W) (K : Act → World → Prop) (Q : Exit → Act → World → Prop) (hK : ∀ a' w', Sim B (s.aps W) a' w' → K a' w') : o.wp P a w K Q := by
  unfold copyOp at hs
  have hx := h.ev x
  have run : ∀ c w', (Builtin.copy_ #[t, t] o.type #[a.eval x, a.eval y]).run P w = .ok c w' → (execOp a.eval o).run P w = .ok (.value c) w' := fun c w' hc => by
    unfold execOp
    simp only [ho, resolve, Sem.run_bind, Sem.run_pure, Result.andThen_ok, invoke, builtin]
    simp [hc]
  split at hs
  · rename_i b off len n hxe
    rw [hxe] at hx
    split at hs
    · rename_i e hu
      replace hu := hT.u _ _ hu
      split at hs
      · rename_i p q hi hsrc
        obtain ⟨i, hi, hp1, hp2⟩ := hT.i _ _ hi
        rw [← hp1] at hs
        split at hs
        · rename_i hc
          obtain ⟨rfl, c3⟩ := hc
          obtain ⟨vals, s1, s2, s3, s3b, s4, s5⟩ := copySrc_ok (P := P) h c3 hsrc
          split at hs
          · rename_i cs hcs
            split at hs
            · rename_i hfit
              cases hs
              rw [Nat.add_mul] at hfit
              have out : ∀ w' bx, SimW B M ρ σ (s.ap bx) a w' → Sim B (s.aps (bx :: (match o.dst with | some d => [.env d (.v (.int .i64 (Nat.min q.1 len : Nat)))] | none => []))) (a.put o.dst (.int .i64 (Nat.min q.1 len : Nat))) w' := fun w' bx hb => by
                cases hd : o.dst with
                | none => exact ⟨M, ρ, σ, hb⟩
                | some d => exact ⟨M, ρ, σ, hb.put .v d⟩
              generalize hqx : a.eval x = xv at hx
              have none' : (∃ f : Value → Prop, True) → ((Builtin.copy_ #[t, t] o.type #[xv, a.eval y]).run P w = .ok (.int .i64 (Nat.min q.1 len : Nat)) w) → len = 0 → o.wp P a w K Q := fun _ hr hl0 => by
                refine wp_val (run _ _ (by rw [hqx]; exact hr)) (hK _ _ (out _ _ ?_))
                have e1 : q.2 = [] := by
                  have : q.2.length = 0 := by rw [s3b, hl0]; have : Nat.min q.1 0 = 0 := Nat.min_eq_right (Nat.zero_le _); rw [this, Nat.zero_mul]
                  exact List.length_eq_zero_iff.1 this
                rw [e1]
                show SimW B M ρ σ (s.ap (.box b (some cs))) a w
                exact h.samebox hcs
              cases hx with
              | vsn =>
                have e0 : Nat.min q.1 0 = 0 := Nat.min_eq_right (Nat.zero_le _)
                have e00 : min q.1 0 = 0 := e0
                have hl : (Builtin.lenOf (.slice none 0 0)).run P w = .ok 0 w := by simp [Builtin.lenOf]
                rw [e0] at s1
                refine none' ⟨fun _ => True, trivial⟩ ?_ rfl
                rw [e0]
                simp [Builtin.copy_, run_underlying' hu, hl, s2, run_sizeOf' hi, s1, e00]
                rfl
              | @vse _ _ _ g qo _ _ =>
                have e0 : Nat.min q.1 0 = 0 := Nat.min_eq_right (Nat.zero_le _)
                have e00 : min q.1 0 = 0 := e0
                have hl : (Builtin.lenOf (.slice (some ⟨g, qo, none⟩) 0 0)).run P w = .ok 0 w := by simp [Builtin.lenOf]
                rw [e0] at s1
                have hv : vals = [] := List.length_eq_zero_iff.1 (by rw [s3, s3b, e0, Nat.zero_mul])
                rw [hv] at s1
                refine none' ⟨fun _ => True, trivial⟩ ?_ rfl
                rw [e0]
                simp [Builtin.copy_, run_underlying' hu, hl, s2, run_sizeOf' hi, s1, e00, storeCells]
                rfl
              | @vs _ _ _ g _ _ cap _ hg hlc hcap =>
                rcases h.box b cs hcs with ⟨-, e⟩ | ⟨g', hg', ⟨ccs, ty, r1, r2, r3, r4⟩, r5, r6⟩
                · rw [hg] at e; cases e
                rw [hg] at hg'
                cases hg'
                have hvl : vals.length ≤ len * i.size := by
                  rw [s3, s3b]; exact Nat.mul_le_mul_right _ (Nat.min_le_right _ _)
                have hst := run_storeCells_cells (P := P) g (off * i.size) vals 0 w (fun j hj => by
                  rw [cell_row r1, Array.getElem?_eq_getElem (by omega)]; rfl) (fun j hj => r1.frz (by omega)) (fun v hv => by
                  obtain ⟨j, hj, e⟩ := List.getElem_of_mem hv
                  rw [← e]; exact s4 j hj)
                simp only [Nat.add_zero] at hst
                have hstore := h.store b g cs hcs hg (off * i.size) vals q.2 s3 (by omega) s4 s5
                refine wp_val (v := .int .i64 (Nat.min q.1 len : Nat)) (w' := w.setCells g (off * i.size) vals) (run _ _ ?_) (hK _ _ (out _ _ hstore))
                rw [hqx]
                simp only [Builtin.copy_, Sem.run_bind, Sem.run_pure, Result.andThen_ok, run_underlying' hu, s2, run_sizeOf' hi, s1]
                simp [run_underlying' hu, s2, run_sizeOf' hi, s1, hst]
                rfl
            · cases hs
          · cases hs
        · cases hs
      · cases hs
    · cases hs
  · cases hs
end
end Go.Proofs.YtdmedeaknnldcaaGreatDoor
