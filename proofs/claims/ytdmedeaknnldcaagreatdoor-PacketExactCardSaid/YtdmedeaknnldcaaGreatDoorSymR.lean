/- The operations, each handing on to what follows: for evaluation. -/
import Derived.Test.YtdmedeaknnldcaaGreatDoorSymM
namespace Go.Proofs.YtdmedeaknnldcaaGreatDoor
open Go.RowKit
set_option linter.unusedVariables false
set_option linter.unusedSimpArgs false
set_option linter.unnecessarySimpa false
/-- How functions answer: as a function, and handing on. -/
structure GamK where
  v : Gam
  K : FuncId → Bool → List AV → List (List AV) → (α : Type) → (Ret → Option α) → Option α
  eq : ∀ f m args bs (α : Type) (k : Ret → Option α) (x : α), K f m args bs α k = some x → ∃ r, v f m args bs = some r ∧ k r = some x
variable {α : Type}
def forceK (d : TypeDesc) (x : AV) (k : AV → Option α) : Option α :=
  match d with
  | .int k0 => (match x with | .v (.int k' n) => if k' = k0 then k (.v (.int k0 n)) else none | _ => none)
  | .bool => (match x with | .v (.bool b) => k (.v (.bool b)) | _ => none)
  | .string => (match x with | .v (.string s) => k (.v (.string s)) | _ => none)
  | .slice _ => (match x with | .list n xs t => k (.list n xs t) | .v (.slice a l c) => k (.v (.slice a l c)) | .vs b off len n => k (.vs b off len n) | _ => none)
  | _ => k x
theorem forceK_eq {d : TypeDesc} {y : AV} {k : AV → Option α} {x : α} (h : forceK d y k = some x) : ∃ v, force d y = some v ∧ k v = some x := by
  unfold forceK at h
  (repeat' split at h) <;> first | (cases h; done) | (refine ⟨_, ?_, h⟩; simp [force, *])
def rowK : List TypeDesc → List AV → Nat → List AV → (List AV → Option α) → Option α
  | [], _, _, acc, k => k acc
  | d :: ds, cs, off, acc, k => match cs[off]? with
    | some x => forceK d x fun v => rowK ds cs (off + 1) (acc ++ [v]) k
    | none => none
theorem rowK_eq : ∀ (ds : List TypeDesc) (cs : List AV) (off : Nat) (acc : List AV) (k : List AV → Option α) (x : α), rowK ds cs off acc k = some x → off + ds.length ≤ max off cs.length ∧ k (acc ++ (cs.drop off).take ds.length) = some x
  | [], cs, off, acc, k, x, h => ⟨by simp; omega, by simpa [rowK] using h⟩
  | d :: ds, cs, off, acc, k, x, h => by
    unfold rowK at h
    split at h
    · rename_i y hy
      obtain ⟨v, h1, h2⟩ := forceK_eq h
      obtain rfl := force_eq h1
      obtain ⟨hlt, hy'⟩ := List.getElem?_eq_some_iff.1 hy
      obtain ⟨q1, q2⟩ := rowK_eq ds cs (off + 1) _ k x h2
      refine ⟨by simp; omega, ?_⟩
      rw [List.drop_eq_getElem_cons hlt, hy', List.length_cons, List.take_succ_cons]
      simpa using q2
    · cases h
def ldK (T : Tab) (t : TypeId) (cs : List AV) (off : Nat) (k : AV → Option α) : Option α :=
  match T.u t with
  | some d =>
    if isRowT d then
      match T.i t, leavesT T 12 t with
      | some i, some ds => if i.1 = ds.length ∧ 0 < i.1 then rowK ds cs off [] fun vs => k (.agg vs) else none
      | _, _ => none
    else
      match cs[off]? with
      | some x => forceK d x k
      | none => none
  | none => none
theorem ldK_eq {T : Tab} {t : TypeId} {cs : List AV} {off : Nat} {k : AV → Option α} {x : α} (h : ldK T t cs off k = some x) : ∃ v, ld T t cs off = some v ∧ k v = some x := by
  unfold ldK at h
  split at h
  · rename_i d hd
    split at h
    · rename_i hr
      split at h
      · rename_i i ds hi hds
        split at h
        · rename_i hc
          obtain ⟨q1, q2⟩ := rowK_eq ds cs off [] _ x h
          refine ⟨.agg ((cs.drop off).take i.1), ?_, by rw [hc.1]; simpa using q2⟩
          have : off + i.1 ≤ cs.length := by
            have := hc.1
            have := hc.2
            omega
          simp only [ld, hd, hr, if_true, hi, this]
        · cases h
      · cases h
    · split at h
      · rename_i y hy
        obtain ⟨v, h1, h2⟩ := forceK_eq h
        refine ⟨v, ?_, h2⟩; simp [ld, *]
      · cases h
  · cases h
def datK (T : Tab) (d : TypeDesc) (x : AV) (k : AV → Option α) : Option α :=
  match d with
  | .slice e => (match T.i e with | some i => (match lstOf i.1 x with | some xs => k (.list i.1 xs none) | none => none) | none => none)
  | d => forceK d x k
theorem datK_eq {T : Tab} {d : TypeDesc} {y : AV} {k : AV → Option α} {x : α} (h : datK T d y k = some x) : ∃ v, datC T d y = some v ∧ k v = some x := by
  unfold datK at h
  split at h
  · (repeat' split at h) <;> first | (cases h; done) | (refine ⟨_, ?_, h⟩; simp [datC, *])
  · rename_i hne
    obtain ⟨v, h1, h2⟩ := forceK_eq h
    refine ⟨v, ?_, h2⟩
    unfold datC
    split
    · exact absurd rfl (hne _)
    · exact h1
def rowDK (T : Tab) : List TypeDesc → List AV → Nat → List AV → (List AV → Option α) → Option α
  | [], _, _, acc, k => k acc
  | d :: ds, cs, off, acc, k => match cs[off]? with
    | some x => datK T d x fun v => rowDK T ds cs (off + 1) (acc ++ [v]) k
    | none => none
theorem rowDK_eq {T : Tab} : ∀ (ds : List TypeDesc) (cs : List AV) (off : Nat) (acc : List AV) (k : List AV → Option α) (x : α), rowDK T ds cs off acc k = some x → ∃ vs, datR T ds cs off = some vs ∧ k (acc ++ vs) = some x
  | [], cs, off, acc, k, x, h => ⟨[], rfl, by simpa [rowDK] using h⟩
  | d :: ds, cs, off, acc, k, x, h => by
    unfold rowDK at h
    split at h
    · rename_i y hy
      obtain ⟨v, h1, h2⟩ := datK_eq h
      obtain ⟨vs, h3, h4⟩ := rowDK_eq ds cs (off + 1) _ k x h2
      refine ⟨v :: vs, ?_, by simpa using h4⟩
      simp only [datR, hy, h1, h3]
    · cases h
def ldDK (T : Tab) (t : TypeId) (cs : List AV) (off : Nat) (k : AV → Option α) : Option α :=
  match T.u t with
  | some d =>
    if isRowT d then
      match T.i t, leavesT T 12 t with
      | some i, some ds => if i.1 = ds.length ∧ 0 < i.1 then rowDK T ds cs off [] fun vs => k (.agg vs) else none
      | _, _ => none
    else
      match cs[off]? with
      | some x => datK T d x k
      | none => none
  | none => none
theorem ldDK_eq {T : Tab} {t : TypeId} {cs : List AV} {off : Nat} {k : AV → Option α} {x : α} (h : ldDK T t cs off k = some x) : ∃ v, ldD T t cs off = some v ∧ k v = some x := by
  unfold ldDK at h
  split at h
  · rename_i d hd
    split at h
    · rename_i hr
      split at h
      · rename_i i ds hi hds
        split at h
        · rename_i hc
          obtain ⟨vs, h1, h2⟩ := rowDK_eq ds cs off [] _ x h
          refine ⟨.agg vs, ?_, by simpa using h2⟩
          simp only [ldD, hd, hr, if_true, hi, hds]
          rw [if_pos hc, h1]
        · cases h
      · cases h
    · rename_i hr
      split at h
      · rename_i y hy
        obtain ⟨v, h1, h2⟩ := datK_eq h
        exact ⟨v, by simp only [ldD, hd, hr, if_false, hy, h1, Bool.false_eq_true], h2⟩
      · cases h
  · cases h
def specK (T : Tab) (s : AS) (op : Op) (k : AV → Option α) : Option α :=
  match op with
  | .load t x =>
    (match s.ev x with
    | .ptr b off => (match s.bx b with | some cs => (match s.tk (vm b) with | some _ => ldDK T t cs off k | none => ldK T t cs off k) | none => none)
    | .ref cs => ldDK T t cs 0 k
    | _ => none)
  | .indexAddr t x ix =>
    (match T.u t, s.ev ix with
    | some (.slice e), .v (.int kk i) =>
      (match T.i e, s.ev x with
      | some inf, .list n xs tk =>
        if inf.1 = n then
          if 0 ≤ i then (match xs[i.toNat]? with | some c => k (.ref c) | none => none) else none
        else none
      | some inf, .vs b off len n => if inf.1 = n then (if 0 ≤ i ∧ i < len then k (.ptr b ((off + i.toNat) * inf.1)) else none) else none
      | _, _ => none)
    | some (.array len e), .v (.int kk i) =>
      (match T.i e, s.ev x with
      | some inf, .ptr b off => if 0 ≤ i ∧ i < len then k (.ptr b (off + i.toNat * inf.1)) else none
      | some inf, .ref cs => if 0 ≤ i ∧ i < len then k (.ref (cs.drop (i.toNat * inf.1))) else none
      | _, _ => none)
    | _, _ => none)
  | .field t x f =>
    (match T.u t with
    | some (.struct fs) =>
      (match fs[f]?, s.ev x with
      | some fd, .agg cs => ldK T fd.type cs fd.offset k
      | _, _ => none)
    | _ => none)
  | .binOp op t x y _ =>
    (match op, s.ev x, s.ev y with
    | .quo, .v (.int k0 a), .v (.int k' b) => if k0 = k' then (if b = 0 then none else k (.v (.int k0 (k0.wrap (a.tdiv b))))) else none
    | .rem, .v (.int k0 a), .v (.int k' b) => if k0 = k' then (if b = 0 then none else k (.v (.int k0 (a.tmod b)))) else none
    | .add, .v (.string a), .v (.string b) => if a.size + b.size ≤ 9223372036854775807 then k (.v (.string (a ++ b))) else none
    | .add, .v (.int k0 a), .v (.int k' b) => if k0 = k' then k (.v (.int k0 (k0.wrap (a + b)))) else none
    | .shl, .v (.int k0 a), .v (.int k' b) => if b < 0 then none else k (.v (.int k0 (shL k0 a b)))
    | .shr, .v (.int k0 a), .v (.int k' b) => if b < 0 then none else k (.v (.int k0 (shR k0 a b)))
    | _, _, _ => none)
  | .index t x ix =>
    (match T.u t, s.ev x, s.ev ix with
    | some .string, .v (.string b), .v (.int kk i) => if 0 ≤ i then (match b[i.toNat]? with | some c => k (.v (.int .u8 c.toNat)) | none => none) else none
    | some (.array len e), .agg cs, .v (.int kk i) => if 0 ≤ i ∧ i < len then (match T.i e with | some inf => ldK T e cs (i.toNat * inf.1) k | none => none) else none
    | _, _, _ => none)
  | .slice t x lo hi none =>
    (match T.u t, s.ev x with
    | some (.slice e), .list n xs tk =>
      (match T.i e with
      | some inf =>
        if inf.1 = n then
          (match lo.map s.ev, hi.map s.ev with
          | none, none => k (.list n xs tk)
          | some (.v (.int _ l)), none => if 0 ≤ l ∧ l ≤ xs.length then k (.list n (xs.drop l.toNat) tk) else none
          | none, some (.v (.int _ h)) => if 0 ≤ h ∧ h ≤ xs.length then k (.list n (xs.take h.toNat) none) else none
          | some (.v (.int _ l)), some (.v (.int _ h)) => if 0 ≤ l ∧ l ≤ h ∧ h ≤ xs.length then k (.list n ((xs.take h.toNat).drop l.toNat) none) else none
          | _, _ => none)
        else none
      | none => none)
    | some (.slice e), .vs b off len n =>
      (match T.i e with
      | some inf =>
        if inf.1 = n then
          (match lo.map s.ev, hi.map s.ev with
          | none, none => k (.vs b off len n)
          | some (.v (.int _ l)), none => if 0 ≤ l ∧ l ≤ len then k (.vs b (off + l.toNat) (len - l.toNat) n) else none
          | none, some (.v (.int _ h)) => if 0 ≤ h ∧ h ≤ len then k (.vs b off h.toNat n) else none
          | some (.v (.int _ l)), some (.v (.int _ h)) => if 0 ≤ l ∧ l ≤ h ∧ h ≤ len then k (.vs b (off + l.toNat) (h.toNat - l.toNat) n) else none
          | _, _ => none)
        else none
      | none => none)
    | some .string, .v (.string b) =>
      (match lo.map s.ev, hi.map s.ev with
      | none, none => k (.v (.string (b.extract 0 b.size)))
      | some (.v (.int _ l)), none => if 0 ≤ l ∧ l ≤ b.size then k (.v (.string (b.extract l.toNat b.size))) else none
      | none, some (.v (.int _ h)) => if 0 ≤ h ∧ h ≤ b.size then k (.v (.string (b.extract 0 h.toNat))) else none
      | some (.v (.int _ l)), some (.v (.int _ h)) => if 0 ≤ l ∧ l ≤ h ∧ h ≤ b.size then k (.v (.string (b.extract l.toNat h.toNat))) else none
      | _, _ => none)
    | _, _ => none)
  | op => (match specOp T s op with | some v => k v | none => none)
theorem specK_eq {T : Tab} {s : AS} {op : Op} {k : AV → Option α} {x : α} (h : specK T s op k = some x) : ∃ v, specOp T s op = some v ∧ k v = some x := by
  unfold specK at h
  split at h
  · split at h
    · split at h
      · split at h
        · obtain ⟨v, h1, h2⟩ := ldDK_eq h
          refine ⟨v, ?_, h2⟩; simp [specOp, *]
        · obtain ⟨v, h1, h2⟩ := ldK_eq h
          refine ⟨v, ?_, h2⟩; simp [specOp, *]
      · cases h
    · obtain ⟨v, h1, h2⟩ := ldDK_eq h
      refine ⟨v, ?_, h2⟩; simp [specOp, *]
    · cases h
  · (repeat' split at h) <;> first | (cases h; done) | (obtain ⟨v, h1, h2⟩ := ldK_eq h; refine ⟨v, ?_, h2⟩; simp [specOp, *]; done) | (refine ⟨_, ?_, h⟩; first | (simp [specOp, *]; done) | (simp only [specOp, *, if_true]))
  · split at h
    · split at h
      · obtain ⟨v, h1, h2⟩ := ldK_eq h
        refine ⟨v, ?_, h2⟩; simp [specOp, *]
      · cases h
    · cases h
  · (repeat' split at h) <;> first | (cases h; done) | (obtain ⟨v, h1, h2⟩ := ldK_eq h; refine ⟨v, ?_, h2⟩; simp [specOp, *]; done) | (refine ⟨_, ?_, h⟩; first | (simp [specOp, *]; done) | (simp only [specOp, *, if_true]))
  · (repeat' split at h) <;> first | (cases h; done) | (obtain ⟨v, h1, h2⟩ := ldK_eq h; refine ⟨v, ?_, h2⟩; simp [specOp, *]; done) | (refine ⟨_, ?_, h⟩; first | (simp [specOp, *]; done) | (simp only [specOp, *, if_true]))
  · (repeat' split at h) <;> first | (cases h; done) | (obtain ⟨v, h1, h2⟩ := ldK_eq h; refine ⟨v, ?_, h2⟩; simp [specOp, *]; done) | (refine ⟨_, ?_, h⟩; first | (simp [specOp, *]; done) | (simp only [specOp, *, if_true]))
  · split at h
    · rename_i v hv; exact ⟨v, hv, h⟩
    · cases h
def appendBK (s : AS) (d : Nat) (i : Nat × Nat) (x : AV) (ys : List (List AV)) (k : List Wr → Option α) : Option α :=
  match s.bx d, s.tk (vk d) with
  | none, none =>
    if s.nin ≤ d then
      (match x with
      | .v z => (match z with
        | .slice none 0 0 => if ys.length * i.2 ≤ maxBytes then k [.box d (some ys.flatten), .tok (vk d) false, .tok (vm d) false, .env d (.vs d 0 ys.length i.1)] else none
        | _ => none)
      | .vs b off len n =>
        if off = 0 ∧ n = i.1 ∧ s.nin ≤ b ∧ b ≠ d then
          (match s.bx b, s.tk (vk b) with
          | some cs, some _ => if len * n ≤ cs.length ∧ (len + ys.length) * i.2 ≤ maxBytes then k [.box b none, .box d (some (cs.take (len * n) ++ ys.flatten)), .tok (vk d) false, .tok (vm d) false, .env d (.vs d 0 (len + ys.length) i.1)] else none
          | _, _ => none)
        else none
      | _ => none)
    else none
  | _, _ => none
theorem appendBK_eq {s : AS} {d : Nat} {i : Nat × Nat} {y : AV} {ys : List (List AV)} {k : List Wr → Option α} {x : α} (h : appendBK s d i y ys k = some x) : ∃ W, appendB s d i y ys = some W ∧ k W = some x := by
  unfold appendBK at h
  (repeat' split at h) <;> first | (cases h; done) | (refine ⟨_, ?_, h⟩; simp [appendB, *]; done) | (refine ⟨_, ?_, h⟩; simp_all [appendB])
def appendK (T : Tab) (s : AS) (d : Nat) (t : TypeId) (x y : Operand) (k : List Wr → Option α) : Option α :=
  match T.u t with
  | some (.slice e) =>
    (match T.i e, T.z e, s.tk (tD d 0) with
    | some i, some z, none =>
      if z.length = i.1 ∧ 0 < i.1 ∧ 0 < i.2 then
        (match s.ev y with
        | .list m ys _ =>
          if m = i.1 then
            bif T.bm d then appendBK s d i (s.ev x) ys k else
            (match s.ev x with
            | .v (.slice none 0 0) => if ys.length * i.2 ≤ maxBytes then k [.tok (tD d 0) true, .env d (.list i.1 ys (some (tD d 0)))] else none
            | .list n xs (some kk) =>
              if n = i.1 then
                (match s.tk kk with
                | some true => if (xs.length + ys.length) * i.2 ≤ maxBytes then k [.tok kk false, .tok (tD d 0) true, .env d (.list i.1 (xs ++ ys) (some (tD d 0)))] else none
                | _ => none)
              else none
            | _ => none)
          else none
        | _ => none)
      else none
    | _, _, _ => none)
  | _ => none
theorem appendK_eq {T : Tab} {s : AS} {d : Nat} {t : TypeId} {y z : Operand} {k : List Wr → Option α} {x : α} (h : appendK T s d t y z k = some x) : ∃ W, appendOp T s d t y z = some W ∧ k W = some x := by
  unfold appendK at h
  split at h
  · rename_i e hu
    split at h
    · rename_i i zz hi hz hk
      split at h
      · rename_i hc
        split at h
        · rename_i m ys tk hz2
          split at h
          · rename_i hm
            cases hb : T.bm d with
            | true =>
              rw [hb] at h
              simp only [cond_true] at h
              obtain ⟨W, h1, h2⟩ := appendBK_eq h
              exact ⟨W, by simp only [appendOp, hu, hi, hz, hk, hc, hz2, hm, hb, if_true, cond_true, and_self]; exact h1, h2⟩
            | false =>
              rw [hb] at h
              simp only [cond_false] at h
              (repeat' split at h) <;> first | (cases h; done) | (refine ⟨_, ?_, h⟩; simp [appendOp, *])
          · cases h
        · cases h
      · cases h
    · cases h
  · cases h
def callK (Γ : GamK) (s : AS) (dst : Option Nat) (m : Bool) (fv : Operand) (args : List Operand) (k : List Wr → Option α) : Option α :=
  match s.ev fv with
  | .fn (.func f) first captured =>
    (match boxesV s (idx (boxL s (first ++ args.map s.ev ++ captured))) 0 (boxL s (first ++ args.map s.ev ++ captured)) with
    | some bs =>
      Γ.K f m (argsV s (idx (boxL s (first ++ args.map s.ev ++ captured))) 0 (first ++ args.map s.ev ++ captured)) bs α fun r =>
        (match retWr s (boxL s (first ++ args.map s.ev ++ captured)) dst (argsT s 0 (first ++ args.map s.ev ++ captured) ++ boxesT s 0 (boxL s (first ++ args.map s.ev ++ captured))) r with
        | some W => k W
        | none => none)
    | none => none)
  | _ => none
theorem callK_eq {Γ : GamK} {s : AS} {dst : Option Nat} {m : Bool} {fv : Operand} {args : List Operand} {k : List Wr → Option α} {x : α} (h : callK Γ s dst m fv args k = some x) : ∃ W, callOp Γ.v s dst m fv args = some W ∧ k W = some x := by
  unfold callK at h
  split at h
  · rename_i f first captured hf
    split at h
    · rename_i bs hbs
      obtain ⟨r, h1, h2⟩ := Γ.eq _ _ _ _ _ _ _ h
      split at h2
      · rename_i W hW
        refine ⟨_, ?_, h2⟩
        unfold callOp
        simp only [hf, hbs, h1, hW]
      · cases h2
    · cases h
  · cases h
def buildSliceK (T : Tab) (s : AS) (d : Nat) (t : TypeId) (len : Nat) (parts : List (Nat × Operand)) (k : List Wr → Option α) : Option α := match buildSliceOp T s d t len parts with | some W => k W | none => none
def makeK (T : Tab) (s : AS) (d : Nat) (t : TypeId) (l c : Operand) (k : List Wr → Option α) : Option α :=
  match T.u t with
  | some (.slice e) =>
    (match T.i e, T.z e, s.bx d, s.tk (vk d) with
    | some i, some z, none, none =>
      if z.length = i.1 ∧ 0 < i.1 ∧ 0 < i.2 ∧ s.nin ≤ d then
        (match s.ev l, s.ev c with
        | .v (.int _ ln), .v (.int _ cp) => if 0 ≤ ln ∧ ln ≤ cp ∧ cp.toNat * i.2 ≤ maxBytes then (bif T.bm d then (match s.tk (tD d 0) with | none => k [.box d (some (reps z ln.toNat)), .tok (vk d) false, .tok (vm d) false, .box d none, .tok (tD d 0) true, .env d (.list i.1 (chunks ((reps z ln.toNat).take (ln.toNat * i.1)) i.1 ln.toNat) (some (tD d 0)))] | some _ => none) else k [.box d (some (reps z ln.toNat)), .tok (vk d) false, .tok (vm d) false, .env d (.vs d 0 ln.toNat i.1)]) else none
        | _, _ => none)
      else none
    | _, _, _, _ => none)
  | _ => none
theorem makeK_eq {T : Tab} {s : AS} {d : Nat} {t : TypeId} {l c : Operand} {k : List Wr → Option α} {x : α} (h : makeK T s d t l c k = some x) : ∃ W, makeOp T s d t l c = some W ∧ k W = some x := by
  unfold makeK at h
  cases hbm : T.bm d <;> simp only [hbm, cond_true, cond_false] at h <;> (repeat' split at h) <;> first | (cases h; done) | (refine ⟨_, ?_, h⟩; simp [makeOp, *])
def copySrcK (s : AS) (n len : Nat) (y : AV) (k : Nat × List AV → Option α) : Option α :=
  match y with
  | .list m ys _ => if m = n then k (ys.length, (ys.take (Nat.min ys.length len)).flatten) else none
  | .vs b2 off2 len2 m =>
    if m = n then
      (match s.bx b2 with
      | some cs2 => if (off2 + len2) * n ≤ cs2.length then k (len2, (cs2.drop (off2 * n)).take (Nat.min len2 len * n)) else none
      | none => none)
    else none
  | _ => none
theorem copySrcK_eq {s : AS} {n len : Nat} {y : AV} {k : Nat × List AV → Option α} {x : α} (h : copySrcK s n len y k = some x) : ∃ q, copySrc s n len y = some q ∧ k q = some x := by
  unfold copySrcK at h
  (repeat' split at h) <;> first | (cases h; done) | (refine ⟨_, ?_, h⟩; simp [copySrc, *])
def copyK (T : Tab) (s : AS) (dst : Option Nat) (t : TypeId) (x y : Operand) (k : List Wr → Option α) : Option α :=
  match s.ev x with
  | .vs b off len n =>
    (match T.u t with
    | some (.slice e) =>
    (match T.i e with
    | some i =>
      copySrcK s n len (s.ev y) fun q =>
      if n = i.1 ∧ 0 < i.1 then
        (match s.bx b with
        | some cs => if (off + len) * n ≤ cs.length then k (.box b (some (splice cs (off * n) q.2)) :: (match dst with | some d => [.env d (.v (.int .i64 (Nat.min q.1 len : Nat)))] | none => [])) else none
        | none => none)
      else none
    | _ => none)
    | _ => none)
  | _ => none
theorem copyK_eq {T : Tab} {s : AS} {d : Option Nat} {t : TypeId} {y z : Operand} {k : List Wr → Option α} {x : α} (h : copyK T s d t y z k = some x) : ∃ W, copyOp T s d t y z = some W ∧ k W = some x := by
  unfold copyK at h
  split at h
  · rename_i b off len n hy
    split at h
    · rename_i e hu
      split at h
      · rename_i i hi
        obtain ⟨q, h1, h2⟩ := copySrcK_eq h
        split at h2
        · rename_i hc
          split at h2
          · rename_i cs hcs
            split at h2
            · rename_i hf
              refine ⟨_, ?_, h2⟩
              obtain ⟨rfl, hc2⟩ := hc
              unfold copyOp
              simp only [hy, hu, hi, h1, hcs, hc2, hf, and_self, if_true]
              rfl
            · cases h2
          · cases h2
        · cases h2
      · cases h
    · cases h
  · cases h
def binK (T : Tab) (s : AS) (o : Oper) (op : BinOp) (t : TypeId) (x y : Operand) (k : AV → Option α) : Option α :=
  match op, s.ev x, s.ev y with
  | .eql, .list _ xs _, .v (.slice none 0 0) =>
    (match T.u t with
    | some (.slice _) => (match xs with | [] => k .ub | _ :: _ => k (.v (.bool false)))
    | _ => none)
  | .neq, .list _ xs _, .v (.slice none 0 0) =>
    (match T.u t with
    | some (.slice _) => (match xs with | [] => k .ub | _ :: _ => k (.v (.bool true)))
    | _ => none)
  | _, _, _ => (match binV T s o op t x y with | some v => k v | none => none)
theorem binK_eq {T : Tab} {s : AS} {o : Oper} {op : BinOp} {t : TypeId} {y z : Operand} {k : AV → Option α} {x : α} (h : binK T s o op t y z k = some x) : ∃ v, binV T s o op t y z = some v ∧ k v = some x := by
  unfold binK at h
  split at h
  · split at h
    · split at h
      · refine ⟨_, ?_, h⟩; simp [binV, eqOp, *]
      · refine ⟨_, ?_, h⟩; simp [binV, eqOp, *]
    · cases h
  · split at h
    · split at h
      · refine ⟨_, ?_, h⟩; simp [binV, eqOp, *]
      · refine ⟨_, ?_, h⟩; simp [binV, eqOp, *]
    · cases h
  · split at h
    · rename_i v hv; exact ⟨v, hv, h⟩
    · cases h
def storeK (T : Tab) (s : AS) (t : TypeId) (x y : Operand) (k : List Wr → Option α) : Option α :=
  match s.ev x, T.i t with
  | .ptr b off, some i =>
    (match s.bx b, cellsOf (s.ev y) with
    | some cs, some new => if new.length = i.1 then (if off + new.length ≤ cs.length then k [.box b (some (splice cs off new))] else none) else none
    | _, _ => none)
  | _, _ => none
theorem storeK_eq {T : Tab} {s : AS} {t : TypeId} {y z : Operand} {k : List Wr → Option α} {x : α} (h : storeK T s t y z k = some x) : ∃ W, storeOp T s t y z = some W ∧ k W = some x := by
  unfold storeK at h
  split at h
  · rename_i b off i h1 h2
    split at h
    · rename_i cs new h3 h4
      split at h
      · rename_i h5
        split at h
        · rename_i h6
          refine ⟨_, ?_, h⟩
          unfold storeOp
          rw [h1, h2]
          simp only
          rw [h3, h4]
          simp only
          rw [if_pos h5, if_pos h6]
        · cases h
      · cases h
    · cases h
  · cases h
def convK (T : Tab) (s : AS) (d : Option Nat) (src dst : TypeId) (x : Operand) (k : List Wr → Option α) : Option α :=
  match T.u src, T.u dst, s.ev x with
  | some .string, some (.slice e), .v (.string b) =>
    (match T.u e, d with
    | some (.int .u8), some d => (match s.tk (tD d 0) with | none => k [.tok (tD d 0) true, .env d (.list 1 (bytesL b) (some (tD d 0)))] | _ => none)
    | _, _ => none)
  | some (.slice e), some .string, .list n xs _ => (match T.u e with | some (.int .u8) => if n = 1 then (match numsOf xs with | some ns => k (AS.out d (.v (.string (strOfNums ns)))) | none => none) else none | _ => none)
  | _, _, _ => (match outV d (specOp T s (.convert src dst x)) with | some W => k W | none => none)
theorem convK_eq {T : Tab} {s : AS} {d : Option Nat} {src dst : TypeId} {y : Operand} {k : List Wr → Option α} {x : α} (h : convK T s d src dst y k = some x) : ∃ W, convOp T s d src dst y = some W ∧ k W = some x := by
  unfold convK at h
  split at h
  · rename_i e b h1 h2 h3
    split at h
    · rename_i d' h4
      split at h
      · rename_i h5
        refine ⟨_, ?_, h⟩
        simp [convOp, specOp, outV, bytesOp, h1, h2, h3, h4, h5]
      · cases h
    · cases h
  · rename_i e n xs tk h1 h2 h3
    split at h
    · rename_i h4
      split at h
      · rename_i h5
        split at h
        · rename_i ns h6
          refine ⟨_, ?_, h⟩
          simp [convOp, specOp, outV, h1, h2, h3, h4, h5, h6]
        · cases h
      · cases h
    · cases h
  · split at h
    · rename_i W hW
      exact ⟨W, by unfold convOp; rw [hW], h⟩
    · cases h
def outK (d : Option Nat) (k : List Wr → Option α) (v : AV) : Option α := k (AS.out d v)
def stepK (T : Tab) (Γ : GamK) (o : Oper) (s : AS) (k : List Wr → Option α) : Option α :=
  if isSpec o.op then specK T s o.op (outK o.dst k) else
  match o.op, o.dst with
  | .call c, d =>
    (match c.callee with
    | .value f => callK Γ s d (match d with | some d => T.bm d | none => false) f c.args.toList k
    | .builtin .append =>
      (match c.args.toList, c.argTypes.toList, d with
      | [x, y], [t, t'], some d => if t = t' then appendK T s d t x y k else none
      | _, _, _ => none)
    | .builtin .copy =>
      (match c.args.toList, c.argTypes.toList with
      | [x, y], [t, t'] => if t = t' then copyK T s d t x y k else none
      | _, _ => none)
    | _ => (match stepOp T Γ.v o s with | some W => k W | none => none))
  | .makeSlice t l c, some d => makeK T s d t l c k
  | .store t x y, none => storeK T s t x y k
  | .binOp op t x y _, d => binK T s o op t x y (outK d k)
  | .convert src dst x, d => convK T s d src dst x k
  | _, _ => (match stepOp T Γ.v o s with | some W => k W | none => none)
theorem stepK_eq {T : Tab} {Γ : GamK} {o : Oper} {s : AS} {k : List Wr → Option α} {x : α} (h : stepK T Γ o s k = some x) : ∃ W, stepOp T Γ.v o s = some W ∧ k W = some x := by
  unfold stepK at h
  split at h
  · rename_i hsp
    obtain ⟨v, h1, h2⟩ := specK_eq h
    refine ⟨_, ?_, h2⟩
    unfold stepOp
    rw [if_pos hsp, h1]
    rfl
  · rename_i hsp
    have plain : (match stepOp T Γ.v o s with | some W => k W | none => none) = some x → ∃ W, stepOp T Γ.v o s = some W ∧ k W = some x := fun h => by
      split at h
      · rename_i W hW; exact ⟨W, hW, h⟩
      · cases h
    split at h
    · rename_i c ho
      have e : stepOp T Γ.v o s = stepCall T Γ.v o s c := by unfold stepOp; rw [if_neg hsp, ho]
      split at h
      · rename_i f hc
        obtain ⟨W, h1, h2⟩ := callK_eq h
        exact ⟨W, by rw [e]; unfold stepCall; rw [hc]; exact h1, h2⟩
      · rename_i hc
        split at h
        · rename_i y z t t' d' e1 e2 hd
          split at h
          · rename_i ht
            obtain ⟨W, h1, h2⟩ := appendK_eq h
            exact ⟨W, by rw [e]; unfold stepCall; rw [hc, e1, e2, hd]; simp only [ht, if_true]; rw [← ht]; exact h1, h2⟩
          · cases h
        · cases h
      · rename_i hc
        split at h
        · rename_i y z t t' e1 e2
          split at h
          · rename_i ht
            obtain ⟨W, h1, h2⟩ := copyK_eq h
            exact ⟨W, by rw [e]; unfold stepCall; rw [hc, e1, e2]; simp only [ht, if_true]; rw [← ht]; exact h1, h2⟩
          · cases h
        · cases h
      · exact plain h
    · rename_i t l c d ho hd
      obtain ⟨W, h1, h2⟩ := makeK_eq h
      exact ⟨W, by unfold stepOp; rw [if_neg hsp, ho, hd]; exact h1, h2⟩
    · rename_i t y z ho hd
      obtain ⟨W, h1, h2⟩ := storeK_eq h
      exact ⟨W, by unfold stepOp; rw [if_neg hsp, ho, hd]; exact h1, h2⟩
    · rename_i op t y z t2 ho
      obtain ⟨v, h1, h2⟩ := binK_eq h
      exact ⟨_, by unfold stepOp; rw [if_neg hsp, ho]; simp only [h1, outV], h2⟩
    · rename_i src dst y ho
      obtain ⟨W, h1, h2⟩ := convK_eq h
      exact ⟨W, by unfold stepOp; rw [if_neg hsp, ho]; exact h1, h2⟩
    · exact plain h
end Go.Proofs.YtdmedeaknnldcaaGreatDoor
