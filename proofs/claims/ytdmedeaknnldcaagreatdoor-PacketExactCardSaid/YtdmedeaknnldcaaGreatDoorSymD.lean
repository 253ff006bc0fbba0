/- The operations that leave memory alone. -/
import Derived.Test.YtdmedeaknnldcaaGreatDoorSymC
import Derived.Laws.BytesArg
namespace Go.Proofs.YtdmedeaknnldcaaGreatDoor
open Go.RowKit
set_option linter.unusedVariables false
set_option linter.unusedSimpArgs false
set_option linter.unnecessarySimpa false
def AV.isNilSlice : AV → Bool
  | .v (.slice none 0 0) => true
  | _ => false
/-- Shifts. -/
def shL (k : IntKind) (x y : Int) : Int := k.wrap (x * 2 ^ (min y.toNat k.bits))
def shR (k : IntKind) (x y : Int) : Int := x.fdiv (2 ^ (min y.toNat k.bits))
/-- The types of a type's cells. -/
def leavesT (T : Tab) : Nat → TypeId → Option (List TypeDesc)
  | 0, _ => none
  | f + 1, t =>
    match T.u t with
    | some (.struct fs) => fs.toList.foldr (fun fd acc => match leavesT T f fd.type, acc with | some a, some b => some (a ++ b) | _, _ => none) (some [])
    | some (.array n e) => (match leavesT T f e with | some a => some ((List.replicate n a).flatten) | none => none)
    | some d => some [d]
    | none => none
/-- A slice among data, as a list. -/
def lstOf (n : Nat) : AV → Option (List (List AV))
  | .list m xs _ => if m = n then some xs else none
  | .v (.slice none 0 0) => some []
  | _ => none
def datC (T : Tab) (d : TypeDesc) (x : AV) : Option AV :=
  match d with
  | .slice e => (match T.i e with | some i => (match lstOf i.1 x with | some xs => some (.list i.1 xs none) | none => none) | none => none)
  | d => force d x
def datR (T : Tab) : List TypeDesc → List AV → Nat → Option (List AV)
  | [], _, _ => some []
  | d :: ds, cs, off => match cs[off]? with
    | some x => (match datC T d x with
      | some v => (match datR T ds cs (off + 1) with | some vs => some (v :: vs) | none => none)
      | none => none)
    | none => none
/-- A load of data. -/
def ldD (T : Tab) (t : TypeId) (cs : List AV) (off : Nat) : Option AV :=
  match T.u t with
  | some d =>
    if isRowT d then
      match T.i t, leavesT T 12 t with
      | some i, some ds => if i.1 = ds.length ∧ 0 < i.1 then (match datR T ds cs off with | some vs => some (.agg vs) | none => none) else none
      | _, _ => none
    else
      match cs[off]? with
      | some x => datC T d x
      | none => none
  | none => none
/-- The bytes of a slice of bytes. -/
def numsOf : List (List AV) → Option (List Int)
  | [] => some []
  | [.v (.int .u8 n)] :: r => (match numsOf r with | some l => some (n :: l) | none => none)
  | _ => none
def specOp (T : Tab) (s : AS) : Op → Option AV
  | .move x | .assign x => some (s.ev x)
  | .pick c x y =>
    match s.ev c with
    | .v (.bool c) =>
      (match s.ev x, s.ev y with
      | .v (.bool p), .v (.bool q) => some (.v (.bool (bif c then p else q)))
      | p, q => some (bif c then p else q))
    | _ => none
  | .load t x =>
    match s.ev x with
    | .ptr b off => (match s.bx b with | some cs => (match s.tk (vm b) with | some _ => ldD T t cs off | none => ld T t cs off) | none => none)
    | .ref cs => ldD T t cs 0
    | _ => none
  | .nilCheck x =>
    match s.ev x with
    | .ptr b off => some (.ptr b off)
    | .ref cs => some (.ref cs)
    | .fn (.func f) as bs => some (.fn (.func f) as bs)
    | _ => none
  | .fieldAddr t x f =>
    match T.u t with
    | some (.struct fs) =>
      (match fs[f]? with
      | some fd =>
        (match T.i fd.type with
        | some i =>
          if i.1 = 0 then none else
          (match s.ev x with
          | .ptr b off => some (.ptr b (off + fd.offset))
          | .ref cs => some (.ref (cs.drop fd.offset))
          | _ => none)
        | none => none)
      | none => none)
    | _ => none
  | .indexAddr t x ix =>
    match T.u t, s.ev ix with
    | some (.slice e), .v (.int k i) =>
      (match T.i e, s.ev x with
      | some inf, .list n xs tk =>
        if inf.1 = n then
          if 0 ≤ i then (match xs[i.toNat]? with | some c => some (.ref c) | none => none) else none
        else none
      | some inf, .vs b off len n => if inf.1 = n then (if 0 ≤ i ∧ i < len then some (.ptr b ((off + i.toNat) * inf.1)) else none) else none
      | _, _ => none)
    | some (.array len e), .v (.int k i) =>
      (match T.i e, s.ev x with
      | some inf, .ptr b off => if 0 ≤ i ∧ i < len then some (.ptr b (off + i.toNat * inf.1)) else none
      | some inf, .ref cs => if 0 ≤ i ∧ i < len then some (.ref (cs.drop (i.toNat * inf.1))) else none
      | _, _ => none)
    | _, _ => none
  | .field t x f =>
    match T.u t with
    | some (.struct fs) =>
      (match fs[f]?, s.ev x with
      | some fd, .agg cs => ld T fd.type cs fd.offset
      | _, _ => none)
    | _ => none
  | .extract x i =>
    match s.ev x with
    | .tup vs => vs[i]?
    | _ => none
  | .makeFunc fn first captured => some (.fn fn (first.toList.map s.ev) (captured.toList.map s.ev))
  | .call { callee := .builtin .len, args, argTypes } =>
    match args.toList, argTypes.toList with
    | [x], [t] =>
      (match s.ev x, T.u t with
      | .list n xs tk, some (.slice _) => some (.v (.int .i64 xs.length))
      | .vs b off len n, some (.slice _) => some (.v (.int .i64 len))
      | .v (.slice a n c), some (.slice _) => some (.v (.int .i64 n))
      | .v (.string b), some .string => some (.v (.int .i64 b.size))
      | _, _ => none)
    | _, _ => none
  | .binOp op t x y _ =>
    match op, s.ev x, s.ev y with
    | .quo, .v (.int k a), .v (.int k' b) => if k = k' then (if b = 0 then none else some (.v (.int k (k.wrap (a.tdiv b))))) else none
    | .rem, .v (.int k a), .v (.int k' b) => if k = k' then (if b = 0 then none else some (.v (.int k (a.tmod b)))) else none
    | .add, .v (.string a), .v (.string b) => if a.size + b.size ≤ 9223372036854775807 then some (.v (.string (a ++ b))) else none
    | .add, .v (.int k a), .v (.int k' b) => if k = k' then some (.v (.int k (k.wrap (a + b)))) else none
    | .shl, .v (.int k a), .v (.int k' b) => if b < 0 then none else some (.v (.int k (shL k a b)))
    | .shr, .v (.int k a), .v (.int k' b) => if b < 0 then none else some (.v (.int k (shR k a b)))
    | _, _, _ => none
  | .convert src dst x =>
    match T.u src, T.u dst, s.ev x with
    | some (.int _), some (.int k), .v (.int _ n) => some (.v (.int k (k.wrap n)))
    | some .string, some .string, .v (.string b) => some (.v (.string b))
    | some (.slice e), some .string, .list n xs _ => (match T.u e with | some (.int .u8) => if n = 1 then (match numsOf xs with | some ns => some (.v (.string (strOfNums ns))) | none => none) else none | _ => none)
    | _, _, _ => none
  | .index t x ix =>
    match T.u t, s.ev x, s.ev ix with
    | some .string, .v (.string b), .v (.int k i) => if 0 ≤ i then (match b[i.toNat]? with | some c => some (.v (.int .u8 c.toNat)) | none => none) else none
    | some (.array len e), .agg cs, .v (.int k i) => if 0 ≤ i ∧ i < len then (match T.i e with | some inf => ld T e cs (i.toNat * inf.1) | none => none) else none
    | _, _, _ => none
  | .slice t x lo hi none =>
    match T.u t, s.ev x with
    | some (.slice e), .list n xs tk =>
      (match T.i e with
      | some inf =>
        if inf.1 = n then
          (match lo.map s.ev, hi.map s.ev with
          | none, none => some (.list n xs tk)
          | some (.v (.int _ l)), none => if 0 ≤ l ∧ l ≤ xs.length then some (.list n (xs.drop l.toNat) tk) else none
          | none, some (.v (.int _ h)) => if 0 ≤ h ∧ h ≤ xs.length then some (.list n (xs.take h.toNat) none) else none
          | some (.v (.int _ l)), some (.v (.int _ h)) => if 0 ≤ l ∧ l ≤ h ∧ h ≤ xs.length then some (.list n ((xs.take h.toNat).drop l.toNat) none) else none
          | _, _ => none)
        else none
      | none => none)
    | some (.slice e), .vs b off len n =>
      (match T.i e with
      | some inf =>
        if inf.1 = n then
          (match lo.map s.ev, hi.map s.ev with
          | none, none => some (.vs b off len n)
          | some (.v (.int _ l)), none => if 0 ≤ l ∧ l ≤ len then some (.vs b (off + l.toNat) (len - l.toNat) n) else none
          | none, some (.v (.int _ h)) => if 0 ≤ h ∧ h ≤ len then some (.vs b off h.toNat n) else none
          | some (.v (.int _ l)), some (.v (.int _ h)) => if 0 ≤ l ∧ l ≤ h ∧ h ≤ len then some (.vs b (off + l.toNat) (h.toNat - l.toNat) n) else none
          | _, _ => none)
        else none
      | none => none)
    | some .string, .v (.string b) =>
      (match lo.map s.ev, hi.map s.ev with
      | none, none => some (.v (.string (b.extract 0 b.size)))
      | some (.v (.int _ l)), none => if 0 ≤ l ∧ l ≤ b.size then some (.v (.string (b.extract l.toNat b.size))) else none
      | none, some (.v (.int _ h)) => if 0 ≤ h ∧ h ≤ b.size then some (.v (.string (b.extract 0 h.toNat))) else none
      | some (.v (.int _ l)), some (.v (.int _ h)) => if 0 ≤ l ∧ l ≤ h ∧ h ≤ b.size then some (.v (.string (b.extract l.toNat h.toNat))) else none
      | _, _ => none)
    | _, _ => none
  | _ => none
section
variable {P : Program} {T : Tab} {B : Base} {M : Mem} {ρ : Rho} {σ : Sig} {s : AS} {a : Act} {w : World}
/-- The operation yields a value that reads so, and leaves the world alone. -/
def Yields (P : Program) (M : Mem) (ρ : Rho) (σ : Sig) (a : Act) (w : World) (o : Oper) (v : AV) : Prop := ∃ c, (execOp a.eval o).run P w = .ok (.value c) w ∧ Rd M ρ σ c v
theorem spec_move (h : SimW B M ρ σ s a w) {o : Oper} {x : Operand} (ho : o.op = .move x ∨ o.op = .assign x) : Yields P M ρ σ a w o (s.ev x) :=
  ⟨a.eval x, by rcases ho with ho | ho <;> (unfold execOp; simp only [ho]; rfl), h.ev x⟩
theorem spec_pick (h : SimW B M ρ σ s a w) {o : Oper} {c x y : Operand} (ho : o.op = .pick c x y) {v : AV} (hs : specOp T s (.pick c x y) = some v) : Yields P M ρ σ a w o v := by
  have hc := h.ev c
  have hx := h.ev x
  have hy := h.ev y
  simp only [specOp] at hs
  split at hs
  · rename_i b hb
    rw [hb] at hc
    generalize hq : a.eval c = cv at hc
    cases hc
    refine ⟨if b then a.eval x else a.eval y, ?_, ?_⟩
    · unfold execOp; simp only [ho, hq]; cases b <;> rfl
    · split at hs
      · rename_i p q hp hq'
        cases hs
        rw [hp] at hx
        rw [hq'] at hy
        generalize a.eval x = xv at hx ⊢
        generalize a.eval y = yv at hy ⊢
        cases hx
        cases hy
        cases b <;> exact .v
      · cases hs
        cases b
        · exact hy
        · exact hx
  · cases hs
theorem Rd.datC {d : TypeDesc} {c : Value} {x y : AV} (h : Rd M ρ σ c x) (hd : datC T d x = some y) : Rd M ρ σ c y := by
  unfold Go.Proofs.YtdmedeaknnldcaaGreatDoor.datC at hd
  split at hd
  · split at hd
    · rename_i i hi
      split at hd
      · rename_i xs hl
        cases hd
        unfold lstOf at hl
        split at hl
        · split at hl
          · rename_i hm
            cases hl
            subst hm
            cases h with
            | nil => exact .nil
            | list cf h1 h2 h3 h4 h5 h6 h7 => exact .list cf h1 h2 h3 h4 h5 h6 .none
          · cases hl
        · cases hl
          cases h
          exact .nil
        · cases hl
      · cases hd
    · cases hd
  · rw [force_eq hd]; exact h
theorem datR_spec : ∀ (ds : List TypeDesc) (cs : List AV) (off : Nat) (vs : List AV), datR T ds cs off = some vs → vs.length = ds.length ∧ off + ds.length ≤ max off cs.length ∧ ∀ i (h : i < vs.length), ∃ d x, cs[off + i]? = some x ∧ datC T d x = some vs[i]
  | [], cs, off, vs, h => by cases h; exact ⟨rfl, by simp; omega, fun i h => by cases h⟩
  | d :: ds, cs, off, vs, h => by
    unfold datR at h
    split at h
    · rename_i x hx
      split at h
      · rename_i v hv
        split at h
        · rename_i r hr
          cases h
          obtain ⟨q1, q2, q3⟩ := datR_spec ds cs (off + 1) r hr
          have := (List.getElem?_eq_some_iff.1 hx).1
          refine ⟨by simp [q1], by simp; omega, fun i hi => ?_⟩
          cases i with
          | zero => exact ⟨d, x, hx, hv⟩
          | succ i =>
            obtain ⟨d', x', e1, e2⟩ := q3 i (by simpa using hi)
            exact ⟨d', x', by rw [← e1]; congr 1; omega, e2⟩
        · cases h
      · cases h
    · cases h
theorem ldD_ok (hT : TabOk P T) {t : TypeId} {g off0 off : Nat} {cs : List AV} {y : AV} (hl : Lies M ρ σ w g off0 cs) (h : ldD T t cs off = some y) : ∃ c, (loadVar t ⟨g, off0 + off, none⟩).run P w = .ok c w ∧ Rd M ρ σ c y := by
  unfold ldD at h
  split at h
  · rename_i d hu
    split at h
    · rename_i hrow
      split at h
      · rename_i i ds hi hds
        split at h
        · rename_i hc
          split at h
          · rename_i vs hvs
            cases h
            obtain ⟨q1, q2, q3⟩ := datR_spec ds cs off vs hvs
            obtain ⟨c, h1, h2⟩ := ld_ok (P := P) (t := t) (off := off) (y := .agg ((cs.drop off).take i.1)) hT hl (by
              have := hc.1
              have := hc.2
              simp only [ld, hu, hrow, if_true, hi]
              rw [if_pos (by omega)])
            refine ⟨c, h1, ?_⟩
            cases h2 with
            | agg z1 z2 z3 =>
              have hlen : ((cs.drop off).take i.1).length = i.1 := by
                have := hc.1
                have := hc.2
                simp; omega
              refine .agg (by rw [z1, hlen, q1, hc.1]) z2 fun j hj hj' => ?_
              obtain ⟨d', x, e1, e2⟩ := q3 j hj'
              have := z3 j hj (by omega)
              obtain ⟨e3, e4⟩ := List.getElem?_eq_some_iff.1 e1
              have e5 : ((cs.drop off).take i.1)[j]'(by omega) = x := by simp [e4]
              rw [e5] at this
              exact this.datC e2
          · cases h
        · cases h
      · cases h
    · rename_i hrow
      split at h
      · rename_i x hx
        obtain ⟨cf, h1, h2, h3⟩ := hl
        obtain ⟨hlt, hx'⟩ := List.getElem?_eq_some_iff.1 hx
        have hr := h3 off hlt
        rw [hx'] at hr
        refine ⟨cf off, ?_, hr.datC h⟩
        have hrow' : isRowT d = false := by cases hq : isRowT d <;> simp_all
        unfold loadVar
        simp only [Sem.run_bind, run_isAgg' (hT.u _ _ hu), Result.andThen_ok, hrow', Bool.false_eq_true, if_false]
        simp [load, Sem.run, h1 off hlt]
      · cases h
  · cases h
theorem spec_load (hT : TabOk P T) (h : SimW B M ρ σ s a w) {o : Oper} {t : TypeId} {x : Operand} (ho : o.op = .load t x) {v : AV} (hs : specOp T s (.load t x) = some v) : Yields P M ρ σ a w o v := by
  have hx := h.ev x
  simp only [specOp] at hs
  have key : ∀ g off c, a.eval x = .pointer (some ⟨g, off, none⟩) → (loadVar t ⟨g, off, none⟩).run P w = .ok c w → (execOp a.eval o).run P w = .ok (.value c) w := fun g off c e1 e2 => by
    unfold execOp
    simp only [ho, e1, Instr.loadAt, Instr.sureAddr, Sem.run_bind, Sem.run_pure, Result.andThen_ok, e2]
  split at hs
  · rename_i b off hb
    rw [hb] at hx
    split at hs
    · rename_i cs hcs
      generalize hq : a.eval x = xv at hx
      cases hx with
      | ptr hg =>
        split at hs
        · obtain ⟨c, h1, h2⟩ := ldD_ok hT (h.lies hcs hg) hs
          rw [Nat.zero_add] at h1
          exact ⟨c, key _ _ _ hq h1, h2⟩
        · obtain ⟨c, h1, h2⟩ := ld_ok hT (h.lies hcs hg) hs
          rw [Nat.zero_add] at h1
          exact ⟨c, key _ _ _ hq h1, h2⟩
    · cases hs
  · rename_i cs hb
    rw [hb] at hx
    generalize hq : a.eval x = xv at hx
    cases hx with
    | ref cf hm ho' hr =>
      obtain ⟨c, h1, h2⟩ := ldD_ok (P := P) (ρ := ρ) (σ := σ) hT ⟨cf, fun j hj => h.mem _ _ _ (hm j hj), fun j _ => ho' j, fun j hj => (hr j hj).of0⟩ hs
      exact ⟨c, key _ _ _ hq h1, h2⟩
  · cases hs
theorem spec_nilCheck (h : SimW B M ρ σ s a w) {o : Oper} {x : Operand} (ho : o.op = .nilCheck x) {v : AV} (hs : specOp T s (.nilCheck x) = some v) : Yields P M ρ σ a w o v := by
  have hx := h.ev x
  simp only [specOp] at hs
  refine ⟨a.eval x, ?_, ?_⟩
  · split at hs
    · rename_i hb
      rw [hb] at hx
      generalize hq : a.eval x = xv at hx
      cases hx
      unfold execOp; simp only [ho, hq]; rfl
    · rename_i hb
      rw [hb] at hx
      generalize hq : a.eval x = xv at hx
      cases hx
      unfold execOp; simp only [ho, hq]; rfl
    · rename_i hb
      rw [hb] at hx
      generalize hq : a.eval x = xv at hx
      cases hx
      unfold execOp; simp only [ho, hq]; rfl
    · cases hs
  · split at hs
    · rename_i hb; rw [hb] at hx; cases hs; exact hx
    · rename_i hb; rw [hb] at hx; cases hs; exact hx
    · rename_i hb; rw [hb] at hx; cases hs; exact hx
    · cases hs
theorem Rd.drop {g off k : Nat} {cs : List AV} (h : Rd M ρ σ (.pointer (some ⟨g, off, none⟩)) (.ref cs)) : Rd M ρ σ (.pointer (some ⟨g, off + k, none⟩)) (.ref (cs.drop k)) := by
  cases h with
  | ref cf hm ho hr =>
    refine .ref (fun j => cf (k + j)) (fun j hj => ?_) (fun j => ho _) (fun j hj => ?_)
    · rw [Nat.add_assoc]; exact hm (k + j) (by simp at hj; omega)
    · simpa using hr (k + j) (by simp at hj; omega)
theorem spec_fieldAddr (hT : TabOk P T) (h : SimW B M ρ σ s a w) {o : Oper} {t : TypeId} {x : Operand} {f : Nat} (ho : o.op = .fieldAddr t x f) {v : AV} (hs : specOp T s (.fieldAddr t x f) = some v) : Yields P M ρ σ a w o v := by
  have hx := h.ev x
  simp only [specOp] at hs
  split at hs
  · rename_i fs hu
    replace hu := hT.u _ _ hu
    split at hs
    · rename_i fd hf
      split at hs
      · rename_i p hi
        obtain ⟨i, hi, hp1, hp2⟩ := hT.i _ _ hi
        rw [← hp1] at hs
        split at hs
        · cases hs
        · rename_i hsz
          have key : ∀ g off, a.eval x = .pointer (some ⟨g, off, none⟩) → (execOp a.eval o).run P w = .ok (.value (.pointer (some ⟨g, off + fd.offset, none⟩))) w := fun g off e1 => by
            unfold execOp
            simp only [ho, e1, Instr.fieldAt, Instr.sureAddr, Sem.run_bind, Sem.run_pure, Result.andThen_ok, run_underlying' hu, hf, fieldPlace, run_sizeOf' hi, hsz, if_false, Addr.add_mid]
          split at hs
          · rename_i hb
            rw [hb] at hx
            generalize hq : a.eval x = xv at hx
            cases hx with
            | ptr hg => cases hs; exact ⟨_, key _ _ hq, .ptr hg⟩
          · rename_i hb
            rw [hb] at hx
            generalize hq : a.eval x = xv at hx
            cases hs
            cases hx with
            | ref cf hm ho' hr => exact ⟨_, key _ _ hq, Rd.drop (.ref cf hm ho' hr)⟩
          · cases hs
      · cases hs
    · cases hs
  · cases hs
theorem spec_field (hT : TabOk P T) (h : SimW B M ρ σ s a w) {o : Oper} {t : TypeId} {x : Operand} {f : Nat} (ho : o.op = .field t x f) {v : AV} (hs : specOp T s (.field t x f) = some v) : Yields P M ρ σ a w o v := by
  have hx := h.ev x
  simp only [specOp] at hs
  split at hs
  · rename_i fs hu
    replace hu := hT.u _ _ hu
    split at hs
    · rename_i fd cs hf hb
      rw [hb] at hx
      generalize hq : a.eval x = xv at hx
      cases hx with
      | agg hl h1 hr =>
        rename_i ccs
        have run : ∀ c, (part fd.type ccs fd.offset).run P w = .ok c w → (execOp a.eval o).run P w = .ok (.value c) w := fun c hc => by
          unfold execOp
          simp only [ho, hq, Instr.field, asAgg, Sem.run_bind, Sem.run_pure, Result.andThen_ok, run_underlying' hu, hf, hc]
        unfold ld at hs
        split at hs
        · rename_i d hd
          replace hd := hT.u _ _ hd
          split at hs
          · rename_i hrow
            split at hs
            · rename_i p hi
              obtain ⟨i, hi, hp1, hp2⟩ := hT.i _ _ hi
              rw [← hp1] at hs
              split at hs
              · rename_i hle
                cases hs
                refine ⟨.agg (ccs.extract fd.offset (fd.offset + i.size)), run _ ?_, .agg (by simp; omega) (fun j hj => ?_) (fun j hj hj' => ?_)⟩
                · unfold part
                  simp only [Sem.run_bind, run_isAgg' hd, Result.andThen_ok, hrow, if_true, run_sizeOf' hi, Sem.run_pure]
                · simp at hj; simpa using h1 (fd.offset + j) (by omega)
                · simp at hj; simpa using hr (fd.offset + j) (by omega) (by omega)
              · cases hs
            · cases hs
          · rename_i hrow
            split at hs
            · rename_i y hy
              obtain rfl := force_eq hs
              obtain ⟨hlt, hy'⟩ := List.getElem?_eq_some_iff.1 hy
              have hrow' : isRowT d = false := by cases hq : isRowT d <;> simp_all
              refine ⟨ccs[fd.offset]'(by omega), run _ ?_, by rw [← hy']; exact hr _ _ _⟩
              unfold part
              simp only [Sem.run_bind, run_isAgg' hd, Result.andThen_ok, hrow', Bool.false_eq_true, if_false]
              rw [Array.getElem?_eq_getElem (by omega : fd.offset < ccs.size)]
              rfl
            · cases hs
        · cases hs
    · cases hs
  · cases hs
theorem spec_extract (h : SimW B M ρ σ s a w) {o : Oper} {x : Operand} {i : Nat} (ho : o.op = .extract x i) {v : AV} (hs : specOp T s (.extract x i) = some v) : Yields P M ρ σ a w o v := by
  have hx := h.ev x
  simp only [specOp] at hs
  split at hs
  · rename_i vs hb
    rw [hb] at hx
    generalize hq : a.eval x = xv at hx
    cases hx with
    | tup hl hr =>
      rename_i ccs
      obtain ⟨hlt, hy'⟩ := List.getElem?_eq_some_iff.1 hs
      refine ⟨ccs[i]'(by omega), ?_, by rw [← hy']; exact hr _ _ _⟩
      unfold execOp
      simp only [ho, hq, Instr.extract]
      rw [Array.getElem?_eq_getElem (by omega : i < ccs.size)]
      rfl
  · cases hs
theorem spec_makeFunc (h : SimW B M ρ σ s a w) {o : Oper} {fn : Fn} {first captured : Array Operand} (ho : o.op = .makeFunc fn first captured) {v : AV} (hs : specOp T s (.makeFunc fn first captured) = some v) : Yields P M ρ σ a w o v := by
  simp only [specOp] at hs
  cases hs
  refine ⟨.func fn (first.map a.eval) (captured.map a.eval), ?_, .fn (by simp) (fun i h1 h2 => ?_) (by simp) (fun i h1 h2 => ?_)⟩
  · unfold execOp; simp only [ho]; rfl
  · simpa using h.ev _
  · simpa using h.ev _
theorem spec_len (hT : TabOk P T) (h : SimW B M ρ σ s a w) {o : Oper} {args : Array Operand} {argTypes : Array TypeId} (ho : o.op = .call { callee := .builtin .len, args, argTypes }) {v : AV} (hs : specOp T s (.call { callee := .builtin .len, args, argTypes }) = some v) : Yields P M ρ σ a w o v := by
  simp only [specOp] at hs
  split at hs
  · rename_i x t ha ht
    have ea : args = #[x] := by rw [← Array.toList_inj]; exact ha
    have et : argTypes = #[t] := by rw [← Array.toList_inj]; exact ht
    subst ea et
    have hx := h.ev x
    have key : ∀ c, (Builtin.len_ #[t] o.type #[a.eval x]).run P w = .ok c w → (execOp a.eval o).run P w = .ok (.value c) w := fun c hc => by
      unfold execOp
      simp only [ho, resolve, Sem.run_bind, Sem.run_pure, Result.andThen_ok, invoke, builtin]
      simp [hc]
    split at hs
    · rename_i n xs tk e hb hu
      replace hu := hT.u _ _ hu
      rw [hb] at hx
      generalize hq : a.eval x = xv at hx
      cases hs
      cases hx with
      | nil => exact ⟨_, key _ (by rw [hq]; simp [Builtin.len_, run_underlying' hu]; rfl), .v⟩
      | list cf hl hc hn hm ho' hr ht => exact ⟨_, key _ (by rw [hq]; simp [Builtin.len_, run_underlying' hu, ← hl]; rfl), .v⟩
    · rename_i hb hu
      replace hu := hT.u _ _ hu
      rw [hb] at hx
      generalize hq : a.eval x = xv at hx
      cases hs
      cases hx with
      | vs h1 h2 h3 => exact ⟨_, key _ (by rw [hq]; simp [Builtin.len_, run_underlying' hu]; rfl), .v⟩
      | vsn => exact ⟨_, key _ (by rw [hq]; simp [Builtin.len_, run_underlying' hu]; rfl), .v⟩
      | vse => exact ⟨_, key _ (by rw [hq]; simp [Builtin.len_, run_underlying' hu]; rfl), .v⟩
    · rename_i hb hu
      replace hu := hT.u _ _ hu
      rw [hb] at hx
      generalize hq : a.eval x = xv at hx
      cases hs
      cases hx
      exact ⟨_, key _ (by rw [hq]; simp [Builtin.len_, run_underlying' hu]; rfl), .v⟩
    · rename_i hb hu
      replace hu := hT.u _ _ hu
      rw [hb] at hx
      generalize hq : a.eval x = xv at hx
      cases hs
      cases hx
      exact ⟨_, key _ (by rw [hq]; simp [Builtin.len_, run_underlying' hu]; rfl), .v⟩
    · cases hs
  · cases hs
end
end Go.Proofs.YtdmedeaknnldcaaGreatDoor
