/- The operations that leave memory alone: indices, slices, divisions, aggregates. -/
import Derived.Test.YtdmedeaknnldcaaGreatDoorSymD
namespace Go.Proofs.YtdmedeaknnldcaaGreatDoor
open Go.RowKit
set_option linter.unusedVariables false
set_option linter.unusedSimpArgs false
set_option linter.unnecessarySimpa false
section
variable {P : Program} {T : Tab} {B : Base} {M : Mem} {ρ : Rho} {σ : Sig} {s : AS} {a : Act} {w : World}
theorem Rd.int_inv {k : IntKind} {i : Int} {c : Value} (h : Rd M ρ σ c (.v (.int k i))) : c = .int k i := by cases h; rfl
theorem Rd.v_inv {x c : Value} (h : Rd M ρ σ c (.v x)) : c = x := by cases h; rfl
theorem spec_indexAddr (hT : TabOk P T) (h : SimW B M ρ σ s a w) {o : Oper} {t : TypeId} {x ix : Operand} (ho : o.op = .indexAddr t x ix) {v : AV} (hs : specOp T s (.indexAddr t x ix) = some v) : Yields P M ρ σ a w o v := by
  have hx := h.ev x
  have hi := h.ev ix
  simp only [specOp] at hs
  split at hs
  · rename_i e k i hu hix
    replace hu := hT.u _ _ hu
    rw [hix] at hi
    have ei := hi.int_inv
    split at hs
    · rename_i p n xs tk hinf hb
      obtain ⟨inf, hinf, hp1, hp2⟩ := hT.i _ _ hinf
      rw [← hp1] at hs
      rw [hb] at hx
      split at hs
      · rename_i hsz
        split at hs
        · rename_i h0
          split at hs
          · rename_i c hc
            cases hs
            obtain ⟨hlt, hce⟩ := List.getElem?_eq_some_iff.1 hc
            generalize hq : a.eval x = xv at hx
            cases hx with
            | nil => cases hlt
            | @list _ _ g off len cap _ _ _ cf hl hcap hn hm ho' hr ht =>
              refine ⟨.pointer (some ⟨g, off + i.toNat * n, none⟩), ?_, .ref (fun j => cf i.toNat j) (fun j hj => hm _ _ hlt (by rw [← hn _ hlt, hce]; exact hj)) (fun j => ho' _ _) (fun j hj => ?_)⟩
              · have h1 : 0 ≤ i ∧ i < (len : Int) := ⟨h0, by omega⟩
                unfold execOp
                simp only [ho, hq, ei, Instr.indexAt, asIntOf, Sem.run_bind, Sem.run_pure, Result.andThen_ok, run_underlying' hu, h1, and_self, if_true, run_sizeOf' hinf, Addr.add_mid, hsz]
              · subst hce; exact hr _ _ hlt hj
          · cases hs
        · cases hs
      · cases hs
    · rename_i p b off len n hinf hb
      obtain ⟨inf, hinf, hp1, hp2⟩ := hT.i _ _ hinf
      rw [← hp1] at hs
      rw [hb] at hx
      split at hs
      · rename_i hsz
        split at hs
        · rename_i h1
          cases hs
          generalize hq : a.eval x = xv at hx
          cases hx with
          | vs hg hl hc =>
            refine ⟨_, ?_, .ptr hg⟩
            unfold execOp
            simp only [ho, hq, ei, Instr.indexAt, asIntOf, Sem.run_bind, Sem.run_pure, Result.andThen_ok, run_underlying' hu, h1, and_self, if_true, run_sizeOf' hinf, Addr.add_mid, Nat.add_mul, hsz]
          | vsn => omega
          | vse => omega
        · cases hs
      · cases hs
    · cases hs
  · rename_i len e k i hu hix
    replace hu := hT.u _ _ hu
    rw [hix] at hi
    have ei := hi.int_inv
    split at hs
    · rename_i p b off hinf hb
      obtain ⟨inf, hinf, hp1, hp2⟩ := hT.i _ _ hinf
      rw [← hp1] at hs
      rw [hb] at hx
      split at hs
      · rename_i h1
        cases hs
        generalize hq : a.eval x = xv at hx
        cases hx with
        | ptr hg =>
          refine ⟨_, ?_, .ptr hg⟩
          unfold execOp
          simp only [ho, hq, ei, Instr.indexAt, Instr.sureAddr, asIntOf, Sem.run_bind, Sem.run_pure, Result.andThen_ok, run_underlying' hu, h1, and_self, if_true, run_sizeOf' hinf, Addr.add_mid]
      · cases hs
    · rename_i p cs hinf hb
      obtain ⟨inf, hinf, hp1, hp2⟩ := hT.i _ _ hinf
      rw [← hp1] at hs
      rw [hb] at hx
      split at hs
      · rename_i h1
        cases hs
        generalize hq : a.eval x = xv at hx
        cases hx with
        | @ref _ _ g off _ cf hm ho' hr =>
          refine ⟨.pointer (some ⟨g, off + i.toNat * inf.size, none⟩), ?_, Rd.drop (.ref cf hm ho' hr)⟩
          unfold execOp
          simp only [ho, hq, ei, Instr.indexAt, Instr.sureAddr, asIntOf, Sem.run_bind, Sem.run_pure, Result.andThen_ok, run_underlying' hu, h1, and_self, if_true, run_sizeOf' hinf, Addr.add_mid]
      · cases hs
    · cases hs
  · cases hs
theorem spec_binOp (h : SimW B M ρ σ s a w) {o : Oper} {op : BinOp} {t t2 : TypeId} {x y : Operand} (ho : o.op = .binOp op t x y t2) {v : AV} (hs : specOp T s (.binOp op t x y t2) = some v) : Yields P M ρ σ a w o v := by
  have hx := h.ev x
  have hy := h.ev y
  simp only [specOp] at hs
  split at hs
  · rename_i k i k' j hxe hye
    rw [hxe] at hx
    rw [hye] at hy
    split at hs
    · rename_i hk
      subst hk
      split at hs
      · cases hs
      · rename_i hj
        cases hs
        refine ⟨_, ?_, .v⟩
        unfold execOp
        simp [ho, hx.int_inv, hy.int_inv, eqGuard, binOp, Op.intDiv, hj]
    · cases hs
  · rename_i k i k' j hxe hye
    rw [hxe] at hx
    rw [hye] at hy
    split at hs
    · rename_i hk
      subst hk
      split at hs
      · cases hs
      · rename_i hj
        cases hs
        refine ⟨_, ?_, .v⟩
        unfold execOp
        simp [ho, hx.int_inv, hy.int_inv, eqGuard, binOp, Op.intDiv, hj]
    · cases hs
  · rename_i b b' hxe hye
    rw [hxe] at hx
    rw [hye] at hy
    split at hs
    · rename_i hle
      cases hs
      refine ⟨_, ?_, .v⟩
      have hmx : IntKind.i64.max = 9223372036854775807 := rfl
      have hle' : ¬ (IntKind.i64.max < ((b.size + b'.size : Nat) : Int)) := by omega
      unfold execOp
      simp only [ho, hx.v_inv, hy.v_inv]
      simp [eqGuard, binOp, Op.stringOp]
      simp at hle'
      omega
    · cases hs
  · rename_i k i k' j hxe hye
    rw [hxe] at hx
    rw [hye] at hy
    split at hs
    · rename_i hk
      subst hk
      cases hs
      refine ⟨_, ?_, .v⟩
      unfold execOp
      simp [ho, hx.int_inv, hy.int_inv, eqGuard, binOp, Op.intArith]
    · cases hs
  · rename_i k i k' j hxe hye
    rw [hxe] at hx
    rw [hye] at hy
    split at hs
    · cases hs
    · rename_i hj
      cases hs
      refine ⟨_, ?_, .v⟩
      unfold execOp
      simp [ho, hx.int_inv, hy.int_inv, eqGuard, binOp, Op.shift, hj, shL]
  · rename_i k i k' j hxe hye
    rw [hxe] at hx
    rw [hye] at hy
    split at hs
    · cases hs
    · rename_i hj
      cases hs
      refine ⟨_, ?_, .v⟩
      unfold execOp
      simp [ho, hx.int_inv, hy.int_inv, eqGuard, binOp, Op.shift, hj, shR]
  · cases hs
theorem part_ld (hT : TabOk P T) {t : TypeId} {off : Nat} {ccs : Array Value} {cs : List AV} {v : AV} (hl : ccs.size = cs.length) (h1 : ∀ i (h : i < ccs.size), (ccs[i]).oneCell' = true) (hr : ∀ i (h : i < ccs.size) (h' : i < cs.length), Rd M ρ σ ccs[i] cs[i]) (hs : ld T t cs off = some v) : ∃ c, (part t ccs off).run P w = .ok c w ∧ Rd M ρ σ c v := by
  unfold ld at hs
  split at hs
  · rename_i d hd
    replace hd := hT.u _ _ hd
    split at hs
    · rename_i hrow
      split at hs
      · rename_i p hi
        obtain ⟨i, hi, hp1, hp2⟩ := hT.i _ _ hi
        rw [← hp1] at hs
        split at hs
        · rename_i hle
          cases hs
          refine ⟨.agg (ccs.extract off (off + i.size)), ?_, .agg (by simp; omega) (fun j hj => ?_) (fun j hj hj' => ?_)⟩
          · unfold part
            simp only [Sem.run_bind, run_isAgg' hd, Result.andThen_ok, hrow, if_true, run_sizeOf' hi, Sem.run_pure]
          · simp at hj; simpa using h1 (off + j) (by omega)
          · simp at hj; simpa using hr (off + j) (by omega) (by omega)
        · cases hs
      · cases hs
    · rename_i hrow
      split at hs
      · rename_i y hy
        obtain rfl := force_eq hs
        obtain ⟨hlt, hy'⟩ := List.getElem?_eq_some_iff.1 hy
        have hrow' : isRowT d = false := by cases hq : isRowT d <;> simp_all
        refine ⟨ccs[off]'(by omega), ?_, by rw [← hy']; exact hr _ _ _⟩
        unfold part
        simp only [Sem.run_bind, run_isAgg' hd, Result.andThen_ok, hrow', Bool.false_eq_true, if_false]
        rw [Array.getElem?_eq_getElem (by omega : off < ccs.size)]
        rfl
      · cases hs
  · cases hs
theorem spec_index (hT : TabOk P T) (h : SimW B M ρ σ s a w) {o : Oper} {t : TypeId} {x ix : Operand} (ho : o.op = .index t x ix) {v : AV} (hs : specOp T s (.index t x ix) = some v) : Yields P M ρ σ a w o v := by
  have hx := h.ev x
  have hy := h.ev ix
  simp only [specOp] at hs
  split at hs
  · rename_i b k i hu hxe hye
    replace hu := hT.u _ _ hu
    rw [hxe] at hx
    rw [hye] at hy
    split at hs
    · rename_i h0
      split at hs
      · rename_i c hc
        cases hs
        refine ⟨_, ?_, .v⟩
        unfold execOp
        simp [ho, hx.v_inv, hy.int_inv, Instr.index, asIntOf, run_underlying' hu, h0, hc]
      · cases hs
    · cases hs
  · rename_i len e cs k i hu hxe hye
    replace hu := hT.u _ _ hu
    rw [hxe] at hx
    rw [hye] at hy
    split at hs
    · rename_i hb
      split at hs
      · rename_i p hi
        obtain ⟨inf, hi, hp1, hp2⟩ := hT.i _ _ hi
        rw [← hp1] at hs
        generalize hq : a.eval x = xv at hx
        cases hx with
        | @agg _ _ ccs _ hl h1 hr =>
        obtain ⟨c, c1, c2⟩ := part_ld (w := w) hT hl h1 hr hs
        refine ⟨c, ?_, c2⟩
        unfold execOp
        simp only [ho, hq, hy.int_inv, Instr.index, asIntOf, Sem.run_bind, Sem.run_pure, Result.andThen_ok, run_underlying' hu, hb, and_self, if_true, run_sizeOf' hi, c1]
      · cases hs
    · cases hs
  · cases hs
theorem numsOf_spec : ∀ {xs : List (List AV)} {ns : List Int}, numsOf xs = some ns → xs.length = ns.length ∧ ∀ i (h : i < xs.length), xs[i] = [.v (.int .u8 (ns.getD i 0))]
  | [], ns, h => by cases h; exact ⟨rfl, fun i h => by cases h⟩
  | x :: r, ns, h => by
    unfold numsOf at h
    split at h
    · rename_i he; cases he
    · rename_i n r' he
      cases he
      split at h
      · rename_i l hl
        cases h
        obtain ⟨q1, q2⟩ := numsOf_spec hl
        refine ⟨by simp [q1], fun i hi => ?_⟩
        cases i with
        | zero => rfl
        | succ i => simpa using q2 i (by simpa using hi)
      · cases h
    · cases h
theorem spec_convert (hT : TabOk P T) (h : SimW B M ρ σ s a w) {o : Oper} {src dst : TypeId} {x : Operand} (ho : o.op = .convert src dst x) {v : AV} (hs : specOp T s (.convert src dst x) = some v) : Yields P M ρ σ a w o v := by
  have hx := h.ev x
  simp only [specOp] at hs
  split at hs
  · rename_i k k' k'' n hu hv hxe
    rw [hxe] at hx
    cases hs
    refine ⟨_, ?_, .v⟩
    unfold execOp
    simp [ho, hx.v_inv, convert, run_underlying' (hT.u _ _ hu), run_underlying' (hT.u _ _ hv), Conv.intToInt]
  · rename_i b hu hv hxe
    rw [hxe] at hx
    cases hs
    refine ⟨_, ?_, .v⟩
    unfold execOp
    simp [ho, hx.v_inv, convert, run_underlying' (hT.u _ _ hu), run_underlying' (hT.u _ _ hv)]
  · rename_i e n xs tk hu hv hxe
    rw [hxe] at hx
    split at hs
    · rename_i he
      split at hs
      · rename_i hn
        subst hn
        split at hs
        · rename_i ns hns
          cases hs
          have hu := hT.u _ _ hu
          have hv := hT.u _ _ hv
          have he := hT.u _ _ he
          refine ⟨.string (strOfNums ns), ?_, .v⟩
          obtain ⟨q1, q2⟩ := numsOf_spec hns
          generalize hq : a.eval x = xv at hx
          cases hx with
          | nil =>
            have : ns = [] := List.length_eq_zero_iff.1 q1.symm
            subst this
            have := run_convert_bytes_nil w src _ hu he 0 0 dst hv
            unfold execOp
            simp only [ho, hq, this, Sem.run_bind, Result.andThen_ok, Sem.run_pure]
            rfl
          | @list _ _ g off len cap _ _ _ cf e1 e2 e3 e4 e5 e6 e7 =>
            have := run_convert_bytes_arg w src _ hu he g off len cap ns (by omega) (fun i hi => by
              have h1 := e4 i 0 (by omega) (by omega)
              have hlt : i < xs.length := by omega
              have h2 := q2 i hlt
              have h3 : 0 < (xs[i]).length := by rw [h2]; simp
              have h4 := e6 i 0 hlt h3
              have h5 : (xs[i])[0] = .v (.int .u8 (ns.getD i 0)) := by simp only [h2, List.getElem_cons_zero]
              rw [h5] at h4
              rw [h4.v_inv] at h1
              have := h.mem _ _ _ h1
              simpa using this) dst hv
            unfold execOp
            simp only [ho, hq, this, Sem.run_bind, Result.andThen_ok, Sem.run_pure]
        · cases hs
      · cases hs
    · cases hs
  · cases hs
/-- A part of a list. -/
theorem Rd.part {g off len cap n l h' : Nat} {xs : List (List AV)} {tk : Option Nat} (hr : Rd M ρ σ (.slice (some ⟨g, off, none⟩) len cap) (.list n xs tk)) (hl : l ≤ h') (hh : h' ≤ len) (tk' : Option Nat) (ht : tk' = none ∨ (tk' = tk ∧ h' = len)) (g' : Addr) (hg : g' = if cap = l then ⟨g, off, none⟩ else ⟨g, off + l * n, none⟩) :
    Rd M ρ σ (.slice (some g') (h' - l) (cap - l)) (.list n ((xs.take h').drop l) tk') := by
  cases hr with
  | list cf e1 e2 e3 e4 e5 e6 e7 =>
    have elen : ((xs.take h').drop l).length = h' - l := by simp; omega
    have eget : ∀ i (hi : i < ((xs.take h').drop l).length), ((xs.take h').drop l)[i] = xs[l + i]'(by rw [elen] at hi; omega) := fun i hi => by simp
    by_cases hc : cap = l
    · rw [if_pos hc] at hg
      subst hg
      have e0 : h' - l = 0 := by omega
      refine .list (fun i j => cf (l + i) j) elen (by omega) (fun i hi => by rw [elen] at hi; omega) (fun i j hi => by rw [elen] at hi; omega) (fun i j => e5 _ _) (fun i j hi => by rw [elen] at hi; omega) (fun k hk => .inl ?_)
      have : cap - l = 0 := by omega
      rw [e0, this]
    · rw [if_neg hc] at hg
      subst hg
      refine .list (fun i j => cf (l + i) j) elen (by omega) (fun i hi => ?_) (fun i j hi hj => ?_) (fun i j => e5 _ _) (fun i j hi hj => ?_) ?_
      · rw [eget i hi]; exact e3 _ _
      · rw [elen] at hi
        have := e4 (l + i) j (by omega) hj
        rw [show off + l * n + i * n + j = off + (l + i) * n + j by rw [Nat.add_mul]; omega]
        exact this
      · have hi' := hi
        rw [elen] at hi'
        have q := eget i hi
        have hj2 : j < (xs[l + i]'(by omega)).length := by rw [← q]; exact hj
        have := e6 (l + i) j (by omega) hj2
        simp only [q]
        exact this
      · rcases ht with ht | ⟨ht, hh'⟩
        · rw [ht]; exact TokOk.none
        · subst ht
          intro k hk
          have a1 : off + l * n + (h' - l) * n = off + len * n := by rw [Nat.add_assoc, ← Nat.add_mul, hh']; congr 2; omega
          have a2 : off + l * n + (cap - l) * n = off + cap * n := by rw [Nat.add_assoc, ← Nat.add_mul]; congr 2; omega
          rw [a1, a2]
          exact e7 k hk
theorem spec_slice (hT : TabOk P T) (h : SimW B M ρ σ s a w) {o : Oper} {t : TypeId} {x : Operand} {lo hi mx : Option Operand} (ho : o.op = .slice t x lo hi mx) {v : AV} (hs : specOp T s (.slice t x lo hi mx) = some v) : Yields P M ρ σ a w o v := by
  have hx := h.ev x
  cases mx with
  | some m => simp [specOp] at hs
  | none =>
  simp only [specOp] at hs
  split at hs
  · rename_i e n xs tk hu hxe
    replace hu := hT.u _ _ hu
    rw [hxe] at hx
    split at hs
    · rename_i p hinf
      obtain ⟨inf, hinf, hp1, hp2⟩ := hT.i _ _ hinf
      rw [← hp1] at hs
      split at hs
      · rename_i hsz
        have fin : ∀ (l h' : Nat) (tk' : Option Nat), l ≤ h' → h' ≤ xs.length → (tk' = none ∨ (tk' = tk ∧ h' = xs.length)) →
            (∀ len cap, xs.length = len → len ≤ cap → (Instr.sliceBounds true len cap (lo.map a.eval) (hi.map a.eval) none).run P w = .ok (l, h', cap) w) → v = .list n ((xs.take h').drop l) tk' → Yields P M ρ σ a w o v := by
          intro l h' tk' hl hh ht hb hv
          subst hv
          generalize hq : a.eval x = xv at hx
          cases hx with
          | nil =>
            have hb' := hb 0 0 rfl (Nat.le_refl _)
            simp at hh
            subst hh
            have : l = 0 := by omega
            subst this
            refine ⟨.slice none 0 0, ?_, by simpa using Rd.nil⟩
            unfold execOp
            simp [ho, hq, Instr.sliceAt, Instr.slice, run_underlying' hu, hb', run_sizeOf' hinf]
          | @list _ _ g off len cap _ _ _ cf e1 e2 e3 e4 e5 e6 e7 =>
            have hb' := hb len cap e1 e2
            have hr : Rd M ρ σ (.slice (some ⟨g, off, none⟩) len cap) (.list n xs tk) := .list cf e1 e2 e3 e4 e5 e6 e7
            refine ⟨.slice (some (if cap = l then ⟨g, off, none⟩ else ⟨g, off + l * n, none⟩)) (h' - l) (cap - l), ?_, hr.part hl (by omega) tk' (by rw [← e1]; exact ht) _ rfl⟩
            unfold execOp
            simp only [ho, hq, Instr.sliceAt, Instr.slice, Sem.run_bind, Sem.run_pure, Result.andThen_ok, run_underlying' hu, hb', run_sizeOf' hinf, Option.map_none, Option.map_some, Addr.add_mid, hsz]
            by_cases hc : cap = l <;> simp [hc]
        have i64 : ∀ {q : Operand} {k : IntKind} {i : Int}, s.ev q = .v (.int k i) → a.eval q = .int k i := fun {q k i} hq => by
          have := h.ev q; rw [hq] at this; exact this.int_inv
        split at hs
        · rename_i hlo hhi
          cases hs
          have e1 : lo = none := Option.map_eq_none_iff.1 hlo
          have e2 : hi = none := Option.map_eq_none_iff.1 hhi
          subst e1 e2
          exact fin 0 xs.length tk (Nat.zero_le _) (Nat.le_refl _) (.inr ⟨rfl, rfl⟩) (fun len cap hl hc => by simp [Instr.sliceBounds, hl]) (by simp)
        · rename_i k l hlo hhi
          have e2 : hi = none := Option.map_eq_none_iff.1 hhi
          subst e2
          obtain ⟨q, rfl, e1⟩ := Option.map_eq_some_iff.1 hlo
          split at hs
          · rename_i hc
            cases hs
            refine fin l.toNat xs.length tk (by omega) (Nat.le_refl _) (.inr ⟨rfl, rfl⟩) (fun len cap hl hc' => ?_) (by simp)
            have : 0 ≤ l ∧ l ≤ (len : Int) := by omega
            simp [Instr.sliceBounds, Instr.sliceBound, i64 e1, asIntOf, this, hl]
          · cases hs
        · rename_i k u hlo hhi
          have e1 : lo = none := Option.map_eq_none_iff.1 hlo
          subst e1
          obtain ⟨q, rfl, e2⟩ := Option.map_eq_some_iff.1 hhi
          split at hs
          · rename_i hc
            cases hs
            refine fin 0 u.toNat none (Nat.zero_le _) (by omega) (.inl rfl) (fun len cap hl hc' => ?_) (by simp)
            have : 0 ≤ u ∧ u ≤ (cap : Int) := by omega
            simp [Instr.sliceBounds, Instr.sliceBound, i64 e2, asIntOf, this]
          · cases hs
        · rename_i k l k' u hlo hhi
          obtain ⟨q, rfl, e1⟩ := Option.map_eq_some_iff.1 hlo
          obtain ⟨q', rfl, e2⟩ := Option.map_eq_some_iff.1 hhi
          split at hs
          · rename_i hc
            cases hs
            refine fin l.toNat u.toNat none (by omega) (by omega) (.inl rfl) (fun len cap hl hc' => ?_) rfl
            have h1 : 0 ≤ u ∧ u ≤ (cap : Int) := by omega
            have h2 : 0 ≤ l ∧ l ≤ ((u.toNat : Nat) : Int) := by omega
            simp [Instr.sliceBounds, Instr.sliceBound, i64 e1, i64 e2, asIntOf, h1]
            omega
          · cases hs
        · cases hs
      · cases hs
    · cases hs
  · rename_i e b off len n hu hxe
    replace hu := hT.u _ _ hu
    rw [hxe] at hx
    split at hs
    · rename_i p hinf
      obtain ⟨inf, hinf, hp1, hp2⟩ := hT.i _ _ hinf
      rw [← hp1] at hs
      split at hs
      · rename_i hsz
        have fin : ∀ (l h' : Nat), l ≤ h' → h' ≤ len → (∀ cap, len ≤ cap → (Instr.sliceBounds true len cap (lo.map a.eval) (hi.map a.eval) none).run P w = .ok (l, h', cap) w) → v = .vs b (off + l) (h' - l) n → Yields P M ρ σ a w o v := by
          intro l h' hl hh hb hv
          subst hv
          generalize hq : a.eval x = xv at hx
          cases hx with
          | @vs _ _ _ g _ _ cap _ hg hlc hc =>
            have hb' := hb cap hlc
            refine ⟨.slice (some (if cap = l then ⟨g, off * n, none⟩ else ⟨g, off * n + l * n, none⟩)) (h' - l) (cap - l), ?_, ?_⟩
            · unfold execOp
              simp only [ho, hq, Instr.sliceAt, Instr.slice, Sem.run_bind, Sem.run_pure, Result.andThen_ok, run_underlying' hu, hb', run_sizeOf' hinf, Option.map_none, Option.map_some, Addr.add_mid, hsz]
              by_cases hc : cap = l <;> simp [hc]
            · by_cases hcl : cap = l
              · rw [if_pos hcl, show h' - l = 0 by omega, show cap - l = 0 by omega]; exact .vse
              · rw [if_neg hcl, ← Nat.add_mul]
                exact .vs hg (by omega) (hc.imp fun sp q => ⟨q.1, q.2.1, by rw [← q.2.2]; congr 1; omega⟩)
          | vsn =>
            have hb' := hb 0 (Nat.le_refl _)
            have e1 : h' = 0 := by omega
            have e2 : l = 0 := by omega
            subst e1 e2
            refine ⟨.slice none 0 0, ?_, .vsn⟩
            unfold execOp
            simp [ho, hq, Instr.sliceAt, Instr.slice, run_underlying' hu, hb', run_sizeOf' hinf]
          | @vse _ _ _ g q _ _ =>
            have hb' := hb 0 (Nat.le_refl _)
            have e1 : h' = 0 := by omega
            have e2 : l = 0 := by omega
            subst e1 e2
            refine ⟨.slice (some ⟨g, q, none⟩) 0 0, ?_, .vse⟩
            unfold execOp
            simp [ho, hq, Instr.sliceAt, Instr.slice, run_underlying' hu, hb', run_sizeOf' hinf]
        have i64 : ∀ {q : Operand} {k : IntKind} {i : Int}, s.ev q = .v (.int k i) → a.eval q = .int k i := fun {q k i} hq => by
          have := h.ev q; rw [hq] at this; exact this.int_inv
        split at hs
        · rename_i hlo hhi
          cases hs
          have e1 : lo = none := Option.map_eq_none_iff.1 hlo
          have e2 : hi = none := Option.map_eq_none_iff.1 hhi
          subst e1 e2
          exact fin 0 len (Nat.zero_le _) (Nat.le_refl _) (fun cap hc => by simp [Instr.sliceBounds]) rfl
        · rename_i k l hlo hhi
          have e2 : hi = none := Option.map_eq_none_iff.1 hhi
          subst e2
          obtain ⟨q, rfl, e1⟩ := Option.map_eq_some_iff.1 hlo
          split at hs
          · rename_i hc
            cases hs
            refine fin l.toNat len (by omega) (Nat.le_refl _) (fun cap hc' => ?_) rfl
            have : 0 ≤ l ∧ l ≤ (len : Int) := by omega
            simp [Instr.sliceBounds, Instr.sliceBound, i64 e1, asIntOf, this]
          · cases hs
        · rename_i k u hlo hhi
          have e1 : lo = none := Option.map_eq_none_iff.1 hlo
          subst e1
          obtain ⟨q, rfl, e2⟩ := Option.map_eq_some_iff.1 hhi
          split at hs
          · rename_i hc
            cases hs
            refine fin 0 u.toNat (Nat.zero_le _) (by omega) (fun cap hc' => ?_) rfl
            have : 0 ≤ u ∧ u ≤ (cap : Int) := by omega
            simp [Instr.sliceBounds, Instr.sliceBound, i64 e2, asIntOf, this]
          · cases hs
        · rename_i k l k' u hlo hhi
          obtain ⟨q, rfl, e1⟩ := Option.map_eq_some_iff.1 hlo
          obtain ⟨q', rfl, e2⟩ := Option.map_eq_some_iff.1 hhi
          split at hs
          · rename_i hc
            cases hs
            refine fin l.toNat u.toNat (by omega) (by omega) (fun cap hc' => ?_) rfl
            have h1 : 0 ≤ u ∧ u ≤ (cap : Int) := by omega
            have h2 : 0 ≤ l ∧ l ≤ ((u.toNat : Nat) : Int) := by omega
            simp [Instr.sliceBounds, Instr.sliceBound, i64 e1, i64 e2, asIntOf, h1]
            omega
          · cases hs
        · cases hs
      · cases hs
    · cases hs
  · rename_i b hu hxe
    replace hu := hT.u _ _ hu
    rw [hxe] at hx
    have i64 : ∀ {q : Operand} {k : IntKind} {i : Int}, s.ev q = .v (.int k i) → a.eval q = .int k i := fun {q k i} hq => by
      have := h.ev q; rw [hq] at this; exact this.int_inv
    have fin : ∀ (l h' : Nat), (Instr.sliceBounds false b.size b.size (lo.map a.eval) (hi.map a.eval) none).run P w = .ok (l, h', b.size) w → v = .v (.string (b.extract l h')) → Yields P M ρ σ a w o v := by
      intro l h' hb hv
      subst hv
      refine ⟨_, ?_, .v⟩
      unfold execOp
      simp only [ho, hx.v_inv, Instr.sliceAt, Instr.slice, Sem.run_bind, Sem.run_pure, Result.andThen_ok, run_underlying' hu, Option.map_none, Option.isSome_none, Bool.false_eq_true, if_false, hb]
    split at hs
    · rename_i hlo hhi
      cases hs
      have e1 : lo = none := Option.map_eq_none_iff.1 hlo
      have e2 : hi = none := Option.map_eq_none_iff.1 hhi
      subst e1 e2
      exact fin 0 b.size (by simp [Instr.sliceBounds]) rfl
    · rename_i k l hlo hhi
      have e2 : hi = none := Option.map_eq_none_iff.1 hhi
      subst e2
      obtain ⟨q, rfl, e1⟩ := Option.map_eq_some_iff.1 hlo
      split at hs
      · rename_i hc
        cases hs
        exact fin l.toNat b.size (by simp [Instr.sliceBounds, Instr.sliceBound, i64 e1, asIntOf, hc]) rfl
      · cases hs
    · rename_i k u hlo hhi
      have e1 : lo = none := Option.map_eq_none_iff.1 hlo
      subst e1
      obtain ⟨q, rfl, e2⟩ := Option.map_eq_some_iff.1 hhi
      split at hs
      · rename_i hc
        cases hs
        exact fin 0 u.toNat (by simp [Instr.sliceBounds, Instr.sliceBound, i64 e2, asIntOf, hc]) rfl
      · cases hs
    · rename_i k l k' u hlo hhi
      obtain ⟨q, rfl, e1⟩ := Option.map_eq_some_iff.1 hlo
      obtain ⟨q', rfl, e2⟩ := Option.map_eq_some_iff.1 hhi
      split at hs
      · rename_i hc
        cases hs
        refine fin l.toNat u.toNat ?_ rfl
        have h1 : 0 ≤ u ∧ u ≤ (b.size : Int) := by omega
        have h2 : 0 ≤ l ∧ l ≤ ((u.toNat : Nat) : Int) := by omega
        simp [Instr.sliceBounds, Instr.sliceBound, i64 e1, i64 e2, asIntOf, h1]
        omega
      · cases hs
    · cases hs
  · cases hs
theorem spec_ok (hT : TabOk P T) (h : SimW B M ρ σ s a w) {o : Oper} {v : AV} (hs : specOp T s o.op = some v) : Yields P M ρ σ a w o v := by
  cases ho : o.op with
  | move x => rw [ho] at hs; simp only [specOp] at hs; cases hs; exact spec_move h (.inl ho)
  | assign x => rw [ho] at hs; simp only [specOp] at hs; cases hs; exact spec_move h (.inr ho)
  | pick c x y => rw [ho] at hs; exact spec_pick h ho hs
  | load t x => rw [ho] at hs; exact spec_load hT h ho hs
  | nilCheck x => rw [ho] at hs; exact spec_nilCheck h ho hs
  | fieldAddr t x f => rw [ho] at hs; exact spec_fieldAddr hT h ho hs
  | indexAddr t x ix => rw [ho] at hs; exact spec_indexAddr hT h ho hs
  | field t x f => rw [ho] at hs; exact spec_field hT h ho hs
  | extract x i => rw [ho] at hs; exact spec_extract h ho hs
  | makeFunc fn fi ca => rw [ho] at hs; exact spec_makeFunc h ho hs
  | binOp op t x y t2 => rw [ho] at hs; exact spec_binOp h ho hs
  | convert src dst x => rw [ho] at hs; exact spec_convert hT h ho hs
  | index t x ix => rw [ho] at hs; exact spec_index hT h ho hs
  | slice t x lo hi mx => rw [ho] at hs; exact spec_slice hT h ho hs
  | call c =>
    obtain ⟨callee, args, argTypes⟩ := c
    rw [ho] at hs
    cases callee with
    | builtin b =>
      cases b with
      | len => exact spec_len hT h ho hs
      | _ => simp [specOp] at hs
    | _ => simp [specOp] at hs
  | _ => rw [ho] at hs; simp [specOp] at hs
end
end Go.Proofs.YtdmedeaknnldcaaGreatDoor
