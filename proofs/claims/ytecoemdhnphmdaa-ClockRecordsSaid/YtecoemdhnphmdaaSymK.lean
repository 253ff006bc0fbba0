/- Regions: in the text's order, and in whatever order. -/
import Derived.Test.YtecoemdhnphmdaaSymJ
import Derived.Test.YtecoemdhnphmdaaReg2
namespace Go.Proofs.Ytecoemdhnphmdaa
open Go.RowKit
set_option linter.unusedVariables false
set_option linter.unusedSimpArgs false
set_option linter.unnecessarySimpa false
inductive Rs where
  | env (t : Nat)
  | box (b : Nat)
  | tok (t : Nat)
  deriving DecidableEq
def Wr.at : Wr → Rs
  | .env t _ => .env t
  | .box b _ => .box b
  | .tok t _ => .tok t
def Rs.eqb : Rs → Rs → Bool
  | .env a, .env b | .box a, .box b | .tok a, .tok b => a == b
  | _, _ => false
theorem Rs.eqb_iff (x y : Rs) : x.eqb y = true ↔ x = y := by cases x <;> cases y <;> simp [Rs.eqb]
def tmpOf : Operand → List Rs
  | .tmp t => [.env t]
  | _ => []
def ptrOf : AV → List Rs
  | .ptr b _ => [.box b]
  | _ => []
def vsOf : AV → List Rs
  | .vs b _ _ => [.box b]
  | _ => []
def tokOf : AV → List Rs
  | .list _ _ (some k) => [.tok k]
  | _ => []
def dsts (d : Option Nat) : List Rs := match d with
  | some d => [.box d, .tok d]
  | none => []
/-- What an operation looks at besides its operands. -/
def extra (s : AS) (o : Oper) : List Rs :=
  match o.op with
  | .load _ x => ptrOf (s.ev x)
  | .store _ x _ => ptrOf (s.ev x)
  | .alloc _ | .box .. | .buildSlice .. | .makeSlice .. => dsts o.dst
  | .call c =>
    (match c.callee with
    | .value f => (match s.ev f with
      | .fn _ first captured => (ptrs (first ++ c.args.toList.map s.ev ++ captured)).map .box ++ dsts o.dst
      | _ => [])
    | .builtin .copy => (match c.args.toList with | x :: _ => vsOf (s.ev x) | [] => [])
    | .builtin .append => (match c.args.toList with | x :: _ => tokOf (s.ev x) ++ dsts o.dst | [] => [])
    | _ => [])
  | _ => []
def reads (s : AS) (o : Oper) : List Rs := o.op.operands.toList.flatMap tmpOf ++ extra s o
def Agree (s s' : AS) : Rs → Prop
  | .env t => s.at t = s'.at t
  | .box b => s.bx b = s'.bx b
  | .tok t => s.tk t = s'.tk t
section
variable {P : Program} {T : Tab} {Γ : Gam} {B : Base} {s s' : AS} {a : Act} {w : World}
theorem ev_agree {x : Operand} (h : ∀ r ∈ tmpOf x, Agree s s' r) : s'.ev x = s.ev x := by
  cases x with
  | tmp t => exact (h (.env t) List.mem_cons_self).symm
  | _ => rfl
theorem boxesOf_agree : ∀ (l : List Nat), (∀ b ∈ l, s.bx b = s'.bx b) → boxesOf s' l = boxesOf s l
  | [], _ => rfl
  | b :: l, h => by
    unfold boxesOf
    rw [h b List.mem_cons_self, boxesOf_agree l fun b hb => h b (List.mem_cons_of_mem _ hb)]
theorem retWr_agree {dst : Option Nat} {r : Ret} (h : ∀ x ∈ dsts dst, Agree s s' x) (hl : s.box.length = s'.box.length) (hni : s.nin = s'.nin) : retWr s' dst r = retWr s dst r := by
  unfold retWr
  split
  · rfl
  · rename_i d _
    have : s.tk d = s'.tk d := h (.tok d) (by simp [dsts])
    rw [this]
  · rename_i d _
    have : s.bx d = s'.bx d := h (.box d) (by simp [dsts])
    rw [this, hl, hni]
  · rfl
theorem appendOp_agree {d : Nat} {t : TypeId} {x y : Operand} (hx : s'.ev x = s.ev x) (hy : s'.ev y = s.ev y) (hd : s.tk d = s'.tk d) (hk : ∀ r ∈ tokOf (s.ev x), Agree s s' r) : appendOp T s' d t x y = appendOp T s d t x y := by
  unfold appendOp
  rw [hx, hy, hd]
  cases hq : s.ev x with
  | list n xs tk =>
    cases tk with
    | none => rfl
    | some k =>
      have : s.tk k = s'.tk k := hk (.tok k) (by rw [hq]; simp [tokOf])
      simp only [this]
  | v z =>
    cases T.u t with
    | none => rfl
    | some q =>
      cases q with
      | slice e =>
        simp only
        cases T.i e with
        | none => rfl
        | some i =>
          cases T.z e with
          | none => rfl
          | some zz =>
            cases s'.tk d with
            | some _ => rfl
            | none =>
              simp only
              split
              · split
                · split
                  · split <;> first | rfl | exact absurd ‹AV.v z = AV.list _ _ _› (by simp)
                  · rfl
                · rfl
              · rfl
      | _ => rfl
  | _ => rfl
theorem step_local {o : Oper} (h : ∀ r ∈ reads s o, Agree s s' r) (hl : s.box.length = s'.box.length) (hni : s.nin = s'.nin) : stepOp T Γ o s' = stepOp T Γ o s := by
  have hev : ∀ x ∈ o.op.operands, s'.ev x = s.ev x := fun x hx => ev_agree fun r hr => h r (List.mem_append_left _ (List.mem_flatMap.2 ⟨x, by simpa using hx, hr⟩))
  have hex : ∀ r ∈ extra s o, Agree s s' r := fun r hr => h r (List.mem_append_right _ hr)
  have hfl : ∀ (hh : isSelect o.op = false), flatOp o s' = flatOp o s := fun hh => by
    unfold flatOp
    rw [hh]
    have e1 : o.op.operands.toList.all (fun x => (s'.ev x).flat.isSome) = o.op.operands.toList.all (fun x => (s.ev x).flat.isSome) := by
      rw [Bool.eq_iff_iff, List.all_eq_true, List.all_eq_true]
      exact ⟨fun q x hx => by rw [← hev x (by simpa using hx)]; exact q x hx, fun q x hx => by rw [hev x (by simpa using hx)]; exact q x hx⟩
    have e2 : execOp s'.fv o = execOp s.fv o := execOp_congr o (fun cs b hc => by rw [hc] at hh; cases hh) fun x hx => by unfold AS.fv; rw [hev x hx]
    rw [e1, e2]
  obtain ⟨dst, op, type, pos, after, guard⟩ := o
  unfold stepOp
  simp only at hev hex hfl ⊢
  cases op with
  | move x => simp [isSpec, specOp, hev x (by simp [Op.operands])]
  | assign x => simp [isSpec, specOp, hev x (by simp [Op.operands])]
  | pick c x y => simp [isSpec, specOp, hev c (by simp [Op.operands]), hev x (by simp [Op.operands]), hev y (by simp [Op.operands])]
  | load t x =>
    have e := hev x (by simp [Op.operands])
    simp only [isSpec, if_true, specOp, e]
    have hx : ∀ r ∈ ptrOf (s.ev x), Agree s s' r := hex
    cases hq : s.ev x with
    | ptr b off =>
      rw [hq] at hx
      have : s.bx b = s'.bx b := hx (.box b) List.mem_cons_self
      simp only [this]
    | _ => rfl
  | nilCheck x => simp [isSpec, specOp, hev x (by simp [Op.operands])]
  | fieldAddr t x f => simp [isSpec, specOp, hev x (by simp [Op.operands])]
  | indexAddr t x ix => simp [isSpec, specOp, hev x (by simp [Op.operands]), hev ix (by simp [Op.operands])]
  | field t x f => simp [isSpec, specOp, hev x (by simp [Op.operands])]
  | index t x ix => simp [isSpec, specOp, hev x (by simp [Op.operands]), hev ix (by simp [Op.operands])]
  | extract x i => simp [isSpec, specOp, hev x (by simp [Op.operands])]
  | convert src d x => simp [isSpec, specOp, hev x (by simp [Op.operands])]
  | makeFunc fn fi ca =>
    have e1 : fi.toList.map s'.ev = fi.toList.map s.ev := List.map_congr_left fun x hx => hev x (by simp [Op.operands]; left; simpa using hx)
    have e2 : ca.toList.map s'.ev = ca.toList.map s.ev := List.map_congr_left fun x hx => hev x (by simp [Op.operands]; right; simpa using hx)
    simp [isSpec, specOp, e1, e2]
  | slice t x lo hi mx =>
    have e1 : lo.map s'.ev = lo.map s.ev := by cases lo with
      | none => rfl
      | some y => simp [hev y (by simp [Op.operands])]
    have e2 : hi.map s'.ev = hi.map s.ev := by cases hi with
      | none => rfl
      | some y => simp [hev y (by simp [Op.operands])]
    have e3 := hev x (by simp [Op.operands])
    cases mx with
    | some m => simp [isSpec, specOp]
    | none => simp only [isSpec, if_true, specOp, e1, e2, e3]
  | binOp bo t x y t2 =>
    have e1 := hev x (by simp [Op.operands])
    have e2 := hev y (by simp [Op.operands])
    have e3 := hfl rfl
    cases bo <;> simp [isSpec, specOp, binV, eqOp, e1, e2, e3]
  | makeSlice t l c =>
    cases dst with
    | none => rfl
    | some d =>
      have : s.bx d = s'.bx d := hex (.box d) (by simp [extra, dsts])
      simp [isSpec, makeOp, this, hl, hni, hev l (by simp [Op.operands]), hev c (by simp [Op.operands])]
  | unOp uo t x => simp [isSpec, hfl rfl]
  | alloc t =>
    cases dst with
    | none => rfl
    | some d =>
      have : s.bx d = s'.bx d := hex (.box d) (by simp [extra, dsts])
      simp [isSpec, allocOp, this, hl, hni]
  | box t x =>
    cases dst with
    | none => rfl
    | some d =>
      have : s.bx d = s'.bx d := hex (.box d) (by simp [extra, dsts])
      simp [isSpec, boxOp, this, hl, hni, hev x (by simp [Op.operands])]
  | store t x y =>
    cases dst with
    | some d => rfl
    | none =>
      have e := hev x (by simp [Op.operands])
      have e2 := hev y (by simp [Op.operands])
      have hx : ∀ r ∈ ptrOf (s.ev x), Agree s s' r := hex
      simp only [isSpec, Bool.false_eq_true, if_false, storeOp, e, e2]
      cases hq : s.ev x with
      | ptr b off =>
        rw [hq] at hx
        have : s.bx b = s'.bx b := hx (.box b) List.mem_cons_self
        cases T.i t <;> simp only [this]
      | _ => rfl
  | build t parts =>
    have e1 : (parts.toList.map fun p => (p.1, s'.ev p.2)) = parts.toList.map fun p => (p.1, s.ev p.2) := List.map_congr_left fun p hp => by
      rw [hev p.2 (by simp only [Op.operands]; simp; exact ⟨p.1, by simpa using hp⟩)]
    simp only [isSpec, Bool.false_eq_true, if_false, buildOp, e1]
  | buildSlice t len parts =>
    cases dst with
    | none => rfl
    | some d =>
      have e1 : (parts.toList.map fun p => (p.1, s'.ev p.2)) = parts.toList.map fun p => (p.1, s.ev p.2) := List.map_congr_left fun p hp => by
        rw [hev p.2 (by simp only [Op.operands]; simp; exact ⟨p.1, by simpa using hp⟩)]
      have : s.tk d = s'.tk d := hex (.tok d) (by simp [extra, dsts])
      simp only [isSpec, Bool.false_eq_true, if_false, buildSliceOp, e1, this]
  | call c =>
    obtain ⟨callee, args, ats⟩ := c
    cases callee with
    | value f =>
      have e1 : args.toList.map s'.ev = args.toList.map s.ev := List.map_congr_left fun x hx => hev x (by simp [Op.operands, Call.operands]; right; simpa using hx)
      have e2 := hev f (by simp [Op.operands, Call.operands])
      simp only [isSpec, Bool.false_eq_true, if_false, stepCall, callOp, e1, e2]
      cases hq : s.ev f with
      | fn g first captured =>
        have hx : ∀ r ∈ (ptrs (first ++ args.toList.map s.ev ++ captured)).map .box ++ dsts dst, Agree s s' r := by
          have := hex
          simp only [extra, hq] at this
          exact this
        have e3 : boxesOf s' (ptrs (first ++ args.toList.map s.ev ++ captured)) = boxesOf s (ptrs (first ++ args.toList.map s.ev ++ captured)) := boxesOf_agree _ fun b hb => hx (.box b) (List.mem_append_left _ (List.mem_map_of_mem hb))
        have e4 : ∀ r, retWr s' dst r = retWr s dst r := fun r => retWr_agree (fun x hx' => hx x (List.mem_append_right _ hx')) hl hni
        cases g <;> simp only [e3, e4]
      | _ => rfl
    | invoke r m => rfl
    | builtin b =>
      have e3 := hfl rfl
      cases b with
      | len =>
        simp only [isSpec, if_true, specOp]
        cases hq : args.toList with
        | nil => rfl
        | cons x r =>
          cases r with
          | cons y r' => rfl
          | nil =>
            have : s'.ev x = s.ev x := hev x (by simp [Op.operands, Call.operands]; rw [← Array.mem_toList_iff, hq]; exact List.mem_cons_self)
            cases ats.toList with
            | nil => rfl
            | cons t r =>
              cases r with
              | nil => simp only [this]
              | cons _ _ => rfl
      | append =>
        simp only [isSpec, Bool.false_eq_true, if_false, stepCall]
        cases hq1 : args.toList with
        | nil => rfl
        | cons x r =>
          cases r with
          | nil => rfl
          | cons y r' =>
            cases r' with
            | cons z r'' => rfl
            | nil =>
              cases hq2 : ats.toList with
              | nil => rfl
              | cons t r =>
                cases r with
                | nil => rfl
                | cons t' r' =>
                  cases r' with
                  | cons z r'' => rfl
                  | nil =>
                    cases dst with
                    | none => rfl
                    | some d =>
                      have hx : s'.ev x = s.ev x := hev x (by simp [Op.operands, Call.operands]; rw [← Array.mem_toList_iff, hq1]; exact List.mem_cons_self)
                      have hy : s'.ev y = s.ev y := hev y (by simp [Op.operands, Call.operands]; rw [← Array.mem_toList_iff, hq1]; exact List.mem_cons_of_mem _ List.mem_cons_self)
                      have hxx : ∀ r ∈ tokOf (s.ev x) ++ dsts (some d), Agree s s' r := by
                        have := hex
                        simp only [extra, hq1] at this
                        exact this
                      simp only [appendOp_agree (T := T) (d := d) (t := t) hx hy (hxx (.tok d) (List.mem_append_right _ (by simp [dsts]))) (fun r hr => hxx r (List.mem_append_left _ hr))]
      | copy =>
        simp only [isSpec, Bool.false_eq_true, if_false, stepCall]
        cases hq1 : args.toList with
        | nil => rfl
        | cons x r =>
          cases r with
          | nil => rfl
          | cons y r' =>
            cases r' with
            | cons z r'' => rfl
            | nil =>
              have hx : s'.ev x = s.ev x := hev x (by simp [Op.operands, Call.operands]; rw [← Array.mem_toList_iff, hq1]; exact List.mem_cons_self)
              have hy : s'.ev y = s.ev y := hev y (by simp [Op.operands, Call.operands]; rw [← Array.mem_toList_iff, hq1]; exact List.mem_cons_of_mem _ List.mem_cons_self)
              have hxx : ∀ r ∈ vsOf (s.ev x), Agree s s' r := by
                have := hex
                simp only [extra, hq1] at this
                exact this
              have e : ∀ t, copyOp T s' dst t x y = copyOp T s dst t x y := fun t => by
                unfold copyOp
                rw [hx, hy]
                cases hq : s.ev x with
                | vs b len n =>
                  have : s.bx b = s'.bx b := hxx (.box b) (by rw [hq]; exact List.mem_cons_self)
                  simp only [this]
                | _ => rfl
              cases hq2 : ats.toList with
              | nil => rfl
              | cons t r =>
                cases r with
                | nil => rfl
                | cons t' r' =>
                  cases r' with
                  | cons z r'' => rfl
                  | nil => simp only [e]
      | _ => simp only [isSpec, Bool.false_eq_true, if_false, stepCall, e3]
  | _ => rfl
end
end Go.Proofs.Ytecoemdhnphmdaa
