/- Regions: in the text's order, and in whatever order. -/
import Derived.Test.YtdmedeaknnldcaaGreatDoorSymJ
import Derived.Test.YtdmedeaknnldcaaGreatDoorReg2
namespace Go.Proofs.YtdmedeaknnldcaaGreatDoor
open Go.RowKit
set_option linter.unusedVariables false
set_option linter.unusedSimpArgs false
set_option linter.unnecessarySimpa false
inductive Rs where
  | env (t : Nat)
  | box (b : Nat)
  | tok (t : Nat)
  deriving DecidableEq
def Wr.at : Wr → Rs
  | .env t _ => .env t
  | .box b _ => .box b
  | .tok t _ => .tok (t / 64)
def Rs.eqb : Rs → Rs → Bool
  | .env a, .env b | .box a, .box b | .tok a, .tok b => a == b
  | _, _ => false
theorem Rs.eqb_iff (x y : Rs) : x.eqb y = true ↔ x = y := by cases x <;> cases y <;> simp [Rs.eqb]
def tmpOf : Operand → List Rs
  | .tmp t => [.env t]
  | _ => []
def ptrOf : AV → List Rs
  | .ptr b _ => [.box b, .tok (vk b / 64)]
  | _ => []
def vsOf : AV → List Rs
  | .vs b _ _ _ => [.box b, .tok (vk b / 64)]
  | _ => []
def tokOf (v : AV) : List Rs := (tk0 v).map fun t => .tok (t / 64)
def dsts (d : Option Nat) : List Rs := match d with
  | some d => [.box d, .tok d, .tok (vk d / 64)]
  | none => []
/-- What the variables of a call hold. -/
def boxRs (s : AS) (b : Nat) : List Rs := .box b :: .tok (vk b / 64) :: (match s.tk (vm b) with | some _ => [] | none => (match s.bx b with | some cs => cs.flatMap tokOf | none => []))
/-- The tokens' names of a call without a slot. -/
def voidRs (dst : Option Nat) (l : List Nat) : List Rs := match dst, l with
  | none, b :: _ => [.tok (tC b 4095 0 / 64)]
  | _, _ => []
/-- What an operation looks at besides its operands. -/
def extra (s : AS) (o : Oper) : List Rs :=
  match o.op with
  | .load _ x => ptrOf (s.ev x)
  | .store _ x _ => ptrOf (s.ev x)
  | .alloc _ | .box .. | .buildSlice .. | .makeSlice .. | .convert .. => dsts o.dst
  | .call c =>
    (match c.callee with
    | .value f => (match s.ev f with
      | .fn _ first captured => (boxL s (first ++ c.args.toList.map s.ev ++ captured)).flatMap (boxRs s) ++ ((first ++ c.args.toList.map s.ev ++ captured).flatMap tokOf ++ (voidRs o.dst (boxL s (first ++ c.args.toList.map s.ev ++ captured)) ++ dsts o.dst))
      | _ => [])
    | .builtin .copy => (match c.args.toList with | [x, y] => vsOf (s.ev x) ++ vsOf (s.ev y) | _ => [])
    | .builtin .append => (match c.args.toList with | x :: _ => tokOf (s.ev x) ++ (vsOf (s.ev x) ++ dsts o.dst) | [] => [])
    | _ => [])
  | _ => []
def reads (s : AS) (o : Oper) : List Rs := o.op.operands.toList.flatMap tmpOf ++ extra s o
def Agree (s s' : AS) : Rs → Prop
  | .env t => s.at t = s'.at t
  | .box b => s.bx b = s'.bx b
  | .tok F => ∀ t, t / 64 = F → s.tk t = s'.tk t
section
variable {P : Program} {T : Tab} {Γ : Gam} {B : Base} {s s' : AS} {a : Act} {w : World}
theorem ev_agree {x : Operand} (h : ∀ r ∈ tmpOf x, Agree s s' r) : s'.ev x = s.ev x := by
  cases x with
  | tmp t => exact (h (.env t) List.mem_cons_self).symm
  | _ => rfl
theorem vk64 (b : Nat) : vk b / 64 = 10000000 + b := by unfold vk; omega
theorem vm64 (b : Nat) : vm b / 64 = vk b / 64 := by unfold vm vk; omega
theorem tD64 (d i : Nat) (h : i < 64) : tD d i / 64 = d := by unfold tD; omega
theorem tC64 (b m : Nat) (h : m < 64) : tC b 4095 m / 64 = tC b 4095 0 / 64 := by unfold tC; omega
theorem tkV_agree {t' : Nat} {f : Nat → Option Nat} {v : AV} (h : ∀ r ∈ tokOf v, Agree s s' r) : tkV s' t' f v = tkV s t' f v := by
  unfold tkV
  split
  · rename_i n xs t
    have : s.tk t = s'.tk t := h (.tok (t / 64)) (by simp [tokOf, tk0]) t rfl
    rw [this]
  · rfl
theorem tkT_agree {t' : Nat} {v : AV} (h : ∀ r ∈ tokOf v, Agree s s' r) : tkT s' t' v = tkT s t' v := by
  unfold tkT
  split
  · rename_i n xs t
    have : s.tk t = s'.tk t := h (.tok (t / 64)) (by simp [tokOf, tk0]) t rfl
    rw [this]
  · rfl
theorem argsV_agree {f : Nat → Option Nat} : ∀ (vs : List AV) (i : Nat), (∀ r ∈ vs.flatMap tokOf, Agree s s' r) → argsV s' f i vs = argsV s f i vs
  | [], _, _ => rfl
  | v :: r, i, h => by
    simp only [argsV]
    rw [tkV_agree fun x hx => h x (List.mem_flatMap.2 ⟨v, List.mem_cons_self, hx⟩), argsV_agree r (i + 1) fun x hx => h x (by obtain ⟨y, h1, h2⟩ := List.mem_flatMap.1 hx; exact List.mem_flatMap.2 ⟨y, List.mem_cons_of_mem _ h1, h2⟩)]
theorem argsT_agree : ∀ (vs : List AV) (i : Nat), (∀ r ∈ vs.flatMap tokOf, Agree s s' r) → argsT s' i vs = argsT s i vs
  | [], _, _ => rfl
  | v :: r, i, h => by
    simp only [argsT]
    rw [tkT_agree fun x hx => h x (List.mem_flatMap.2 ⟨v, List.mem_cons_self, hx⟩), argsT_agree r (i + 1) fun x hx => h x (by obtain ⟨y, h1, h2⟩ := List.mem_flatMap.1 hx; exact List.mem_flatMap.2 ⟨y, List.mem_cons_of_mem _ h1, h2⟩)]
theorem cellsV_agree {f : Nat → Option Nat} {k : Nat} : ∀ (vs : List AV) (i : Nat), (∀ r ∈ vs.flatMap tokOf, Agree s s' r) → cellsV s' f k i vs = cellsV s f k i vs
  | [], _, _ => rfl
  | v :: r, i, h => by
    simp only [cellsV]
    rw [tkV_agree fun x hx => h x (List.mem_flatMap.2 ⟨v, List.mem_cons_self, hx⟩), cellsV_agree r (i + 1) fun x hx => h x (by obtain ⟨y, h1, h2⟩ := List.mem_flatMap.1 hx; exact List.mem_flatMap.2 ⟨y, List.mem_cons_of_mem _ h1, h2⟩)]
theorem cellsT_agree {k : Nat} : ∀ (vs : List AV) (i : Nat), (∀ r ∈ vs.flatMap tokOf, Agree s s' r) → cellsT s' k i vs = cellsT s k i vs
  | [], _, _ => rfl
  | v :: r, i, h => by
    simp only [cellsT]
    rw [tkT_agree fun x hx => h x (List.mem_flatMap.2 ⟨v, List.mem_cons_self, hx⟩), cellsT_agree r (i + 1) fun x hx => h x (by obtain ⟨y, h1, h2⟩ := List.mem_flatMap.1 hx; exact List.mem_flatMap.2 ⟨y, List.mem_cons_of_mem _ h1, h2⟩)]
/-- A variable that a call sees is seen alike. -/
theorem boxRs_spec {b : Nat} (h : ∀ r ∈ boxRs s b, Agree s s' r) : s.bx b = s'.bx b ∧ s.tk (vm b) = s'.tk (vm b) ∧ s.tk (vk b) = s'.tk (vk b) ∧ ∀ cs, s.tk (vm b) = none → s.bx b = some cs → ∀ r ∈ cs.flatMap tokOf, Agree s s' r := by
  refine ⟨h (.box b) List.mem_cons_self, h (.tok (vk b / 64)) (List.mem_cons_of_mem _ List.mem_cons_self) (vm b) (vm64 b), h (.tok (vk b / 64)) (List.mem_cons_of_mem _ List.mem_cons_self) (vk b) rfl, fun cs h1 h2 r hr => h r ?_⟩
  refine List.mem_cons_of_mem _ (List.mem_cons_of_mem _ ?_)
  rw [h1, h2]
  exact hr
theorem boxesV_agree {f : Nat → Option Nat} : ∀ (l : List Nat) (k : Nat), (∀ r ∈ l.flatMap (boxRs s), Agree s s' r) → boxesV s' f k l = boxesV s f k l
  | [], _, _ => rfl
  | b :: l, k, h => by
    obtain ⟨h1, h2, -, h3⟩ := boxRs_spec (s := s) (s' := s') (b := b) fun x hx => h x (List.mem_flatMap.2 ⟨b, List.mem_cons_self, hx⟩)
    unfold boxesV
    rw [← h1, ← h2, boxesV_agree l (k + 1) fun x hx => h x (by obtain ⟨y, q1, q2⟩ := List.mem_flatMap.1 hx; exact List.mem_flatMap.2 ⟨y, List.mem_cons_of_mem _ q1, q2⟩)]
    cases hb : s.bx b with
    | none => rfl
    | some cs =>
      cases hv : s.tk (vm b) with
      | some _ => rfl
      | none => cases boxesV s f (k + 1) l <;> simp only [cellsV_agree cs 0 (h3 cs hv hb)]
theorem boxesT_agree : ∀ (l : List Nat) (k : Nat), (∀ r ∈ l.flatMap (boxRs s), Agree s s' r) → boxesT s' k l = boxesT s k l
  | [], _, _ => rfl
  | b :: l, k, h => by
    obtain ⟨h1, h2, -, h3⟩ := boxRs_spec (s := s) (s' := s') (b := b) fun x hx => h x (List.mem_flatMap.2 ⟨b, List.mem_cons_self, hx⟩)
    unfold boxesT
    rw [← h1, ← h2, boxesT_agree l (k + 1) fun x hx => h x (by obtain ⟨y, q1, q2⟩ := List.mem_flatMap.1 hx; exact List.mem_flatMap.2 ⟨y, List.mem_cons_of_mem _ q1, q2⟩)]
    cases hb : s.bx b with
    | none => rfl
    | some cs =>
      cases hv : s.tk (vm b) with
      | some _ => rfl
      | none => simp only [cellsT_agree cs 0 (h3 cs hv hb)]
theorem inner_agree : ∀ (l : List Nat), (∀ r ∈ l.flatMap (boxRs s), Agree s s' r) → inner s' l = inner s l
  | [], _ => rfl
  | b :: l, h => by
    obtain ⟨h1, h2, -, h3⟩ := boxRs_spec (s := s) (s' := s') (b := b) fun x hx => h x (List.mem_flatMap.2 ⟨b, List.mem_cons_self, hx⟩)
    unfold inner
    rw [← h1, ← h2, inner_agree l fun x hx => h x (by obtain ⟨y, q1, q2⟩ := List.mem_flatMap.1 hx; exact List.mem_flatMap.2 ⟨y, List.mem_cons_of_mem _ q1, q2⟩)]
theorem mem_adds {l : List Nat} {b x : Nat} (h : x ∈ l) : x ∈ adds l b := by
  unfold adds
  split
  · exact h
  · exact List.mem_append_left _ h
theorem mem_foldl_adds : ∀ (m l : List Nat) (x : Nat), x ∈ l → x ∈ m.foldl adds l
  | [], _, _, h => h
  | b :: m, l, x, h => mem_foldl_adds m _ x (mem_adds h)
theorem boxL_agree (vs : List AV) (h : ∀ r ∈ (boxL s vs).flatMap (boxRs s), Agree s s' r) : boxL s' vs = boxL s vs := by
  unfold boxL
  rw [inner_agree (ptrs vs) fun r hr => ?_]
  obtain ⟨y, q1, q2⟩ := List.mem_flatMap.1 hr
  exact h r (List.mem_flatMap.2 ⟨y, mem_foldl_adds _ _ _ q1, q2⟩)
theorem freeT_agree {b : Nat} (h : Agree s s' (.tok (tC b 4095 0 / 64))) : ∀ (f m : Nat), f + m ≤ 60 → freeT s' b f m = freeT s b f m
  | 0, _, _ => rfl
  | f + 1, m, hm => by
    unfold freeT
    have : s.tk (tC b 4095 m) = s'.tk (tC b 4095 m) := h _ (tC64 b m (by omega))
    rw [← this, freeT_agree h f (m + 1) (by omega)]
theorem freeT_lt {b : Nat} : ∀ (f m : Nat), freeT s b f m ≤ f + m
  | 0, m => by simp [freeT]
  | f + 1, m => by
    unfold freeT
    split
    · omega
    · have := freeT_lt (b := b) f (m + 1); omega
theorem seqN_mem {d : Nat} : ∀ (n i t : Nat), t ∈ seqN d i n → ∃ j, t = tD d j ∧ i ≤ j ∧ j < i + n
  | 0, i, t, h => by cases h
  | n + 1, i, t, h => by
    rcases List.mem_cons.1 h with e | e
    · exact ⟨i, e, Nat.le_refl _, by omega⟩
    · obtain ⟨j, h1, h2, h3⟩ := seqN_mem n (i + 1) t e
      exact ⟨j, h1, by omega, by omega⟩
theorem seqC_mem {b : Nat} : ∀ (n i t : Nat), t ∈ seqC b i n → ∃ j, t = tC b 4095 j ∧ i ≤ j ∧ j < i + n
  | 0, i, t, h => by cases h
  | n + 1, i, t, h => by
    rcases List.mem_cons.1 h with e | e
    · exact ⟨i, e, Nat.le_refl _, by omega⟩
    · obtain ⟨j, h1, h2, h3⟩ := seqC_mem n (i + 1) t e
      exact ⟨j, h1, by omega, by omega⟩
theorem seqN_length {d : Nat} : ∀ (n i : Nat), (seqN d i n).length = n
  | 0, _ => rfl
  | n + 1, i => by simp [seqN, seqN_length n]
theorem seqC_length {b : Nat} : ∀ (n i : Nat), (seqC b i n).length = n
  | 0, _ => rfl
  | n + 1, i => by simp [seqC, seqC_length n]
theorem retWr_agree {l : List Nat} {dst : Option Nat} {tab : List (Nat × Nat)} {r : Ret} (hb : ∀ x ∈ l.flatMap (boxRs s), Agree s s' x) (h : ∀ x ∈ voidRs dst l ++ dsts dst, Agree s s' x) (hni : s.nin = s'.nin) : retWr s' l dst tab r = retWr s l dst tab r := by
  unfold retWr
  obtain ⟨us, hus⟩ : ∃ us, usedT tab r.use = us := ⟨_, rfl⟩
  rw [hus]
  · have e1 : newN s' l dst r.toks.length = newN s l dst r.toks.length := by
      unfold newN
      cases dst with
      | some d => rfl
      | none =>
        cases l with
        | nil => rfl
        | cons b l => simp only [freeT_agree (h (.tok (tC b 4095 0 / 64)) (List.mem_append_left _ List.mem_cons_self)) 30 0 (by omega)]
    simp only [e1]
    obtain ⟨ns, hns⟩ : ∃ ns, newN s l dst r.toks.length = ns := ⟨_, rfl⟩
    rw [hns]
    unfold retWr2
    have e2 : (decide (ns.length ≤ 30) && (ns.all (fun t => (s'.tk t).isNone) && (ns.length == r.toks.length && r.outs.length == l.length))) = (decide (ns.length ≤ 30) && (ns.all (fun t => (s.tk t).isNone) && (ns.length == r.toks.length && r.outs.length == l.length))) := by
      by_cases hlen : ns.length ≤ 30
      · have : ∀ t ∈ ns, s'.tk t = s.tk t := fun t ht => by
          rw [← hns] at ht hlen
          unfold newN at ht hlen
          cases dst with
          | some d =>
            simp only at ht hlen
            rw [seqN_length] at hlen
            obtain ⟨j, rfl, -, h2⟩ := seqN_mem _ _ _ ht
            exact (h (.tok d) (List.mem_append_right _ (by simp [dsts])) _ (tD64 d j (by omega))).symm
          | none =>
            cases l with
            | nil => simp only at ht; cases ht
            | cons b l =>
              simp only at ht hlen
              rw [seqC_length] at hlen
              obtain ⟨j, rfl, -, h2⟩ := seqC_mem _ _ _ ht
              have := freeT_lt (s := s) (b := b) 30 0
              exact (h (.tok (tC b 4095 0 / 64)) (List.mem_append_left _ List.mem_cons_self) _ (tC64 b j (by omega))).symm
        have e3 : ns.all (fun t => (s'.tk t).isNone) = ns.all (fun t => (s.tk t).isNone) := by
          rw [Bool.eq_iff_iff, List.all_eq_true, List.all_eq_true]
          exact ⟨fun q t ht => by rw [← this t ht]; exact q t ht, fun q t ht => by rw [this t ht]; exact q t ht⟩
        rw [e3]
      · simp [hlen]
    have e0 : slOk s' l r.sl = slOk s l r.sl := by
      unfold slOk
      congr 1
      funext k
      cases hk : l[k]? with
      | none => rfl
      | some b =>
        obtain ⟨hlt, e⟩ := List.getElem?_eq_some_iff.1 hk
        obtain ⟨-, h2, -⟩ := boxRs_spec (s := s) (s' := s') (b := b) fun x hx' => hb x (List.mem_flatMap.2 ⟨b, e ▸ List.getElem_mem _, hx'⟩)
        simp only [h2]
    rw [e0, e2]
    have e4 : boxWr (backC s' l r.sl (fB l dst r) (fun t => (r.toks.zip ns).lookup t)) l r.outs = boxWr (backC s l r.sl (fB l dst r) (fun t => (r.toks.zip ns).lookup t)) l r.outs := by
      have key : ∀ (f g : Nat → Option Nat) (l0 l : List Nat) (os : List (List AV)), (∀ x ∈ l.flatMap (boxRs s), Agree s s' x) → boxWr (backC s' l0 r.sl f g) l os = boxWr (backC s l0 r.sl f g) l os := by
        intro f g l0 l
        induction l with
        | nil => intro os _; rfl
        | cons b l ih =>
          intro os hx
          cases os with
          | nil => rfl
          | cons cs os =>
            obtain ⟨-, h2, -⟩ := boxRs_spec (s := s) (s' := s') (b := b) fun x hx' => hx x (List.mem_flatMap.2 ⟨b, List.mem_cons_self, hx'⟩)
            simp only [boxWr, backC, ← h2]
            congr 1
            exact ih os fun x hx' => hx x (by obtain ⟨y, q1, q2⟩ := List.mem_flatMap.1 hx'; exact List.mem_flatMap.2 ⟨y, List.mem_cons_of_mem _ q1, q2⟩)
      exact key _ _ l l r.outs hb
    simp only [e4]
    cases hnew : r.new with
    | none => cases dst <;> rfl
    | some cs =>
      cases dst with
      | none => rfl
      | some d =>
        have q1 : s.bx d = s'.bx d := h (.box d) (List.mem_append_right _ (by simp [dsts]))
        have q2 : s.tk (vk d) = s'.tk (vk d) := h (.tok (vk d / 64)) (List.mem_append_right _ (by simp [dsts])) _ rfl
        simp only [← q1, ← q2, hni]
theorem appendB_agree {d : Nat} {i : Nat × Nat} {x : AV} {ys : List (List AV)} (hx : ∀ r ∈ vsOf x ++ dsts (some d), Agree s s' r) (hni : s.nin = s'.nin) : appendB s' d i x ys = appendB s d i x ys := by
  have q1 : s.bx d = s'.bx d := hx (.box d) (List.mem_append_right _ (by simp [dsts]))
  have q2 : s.tk (vk d) = s'.tk (vk d) := hx (.tok (vk d / 64)) (List.mem_append_right _ (by simp [dsts])) _ rfl
  unfold appendB
  rw [← q1, ← q2, ← hni]
  cases x with
  | vs b off len n =>
    have q3 : s.bx b = s'.bx b := hx (.box b) (List.mem_append_left _ (by simp [vsOf]))
    have q4 : s.tk (vk b) = s'.tk (vk b) := hx (.tok (vk b / 64)) (List.mem_append_left _ (by simp [vsOf])) _ rfl
    dsimp only
    rw [← q3, ← q4]
  | _ => rfl
theorem appendOp_agree {d : Nat} {t : TypeId} {x y : Operand} (hx : s'.ev x = s.ev x) (hy : s'.ev y = s.ev y) (hk : ∀ r ∈ tokOf (s.ev x) ++ (vsOf (s.ev x) ++ dsts (some d)), Agree s s' r) (hni : s.nin = s'.nin) : appendOp T s' d t x y = appendOp T s d t x y := by
  have hd : s.tk (tD d 0) = s'.tk (tD d 0) := hk (.tok d) (List.mem_append_right _ (List.mem_append_right _ (by simp [dsts]))) _ (tD64 d 0 (by omega))
  have hB : ∀ i ys, appendB s' d i (s.ev x) ys = appendB s d i (s.ev x) ys := fun i ys => appendB_agree (fun r hr => hk r (List.mem_append_right _ hr)) hni
  unfold appendOp
  rw [hx, hy, ← hd]
  simp only [hB]
  cases hq : s.ev x with
  | list n xs tk =>
    cases tk with
    | none => rfl
    | some k =>
      have : s.tk k = s'.tk k := hk (.tok (k / 64)) (List.mem_append_left _ (by rw [hq]; simp [tokOf, tk0])) k rfl
      simp only [this]
  | v z =>
    cases T.u t with
    | none => rfl
    | some q =>
      cases q with
      | slice e =>
        simp only
        cases T.i e with
        | none => rfl
        | some i =>
          cases T.z e with
          | none => rfl
          | some zz =>
            cases s.tk (tD d 0) with
            | some _ => rfl
            | none =>
              simp only
              split
              · split
                · split
                  · congr 1
                    split <;> first | rfl | exact absurd ‹AV.v z = AV.list _ _ _› (by simp)
                  · rfl
                · rfl
              · rfl
      | _ => rfl
  | _ => rfl
theorem step_local {o : Oper} (h : ∀ r ∈ reads s o, Agree s s' r) (hni : s.nin = s'.nin) : stepOp T Γ o s' = stepOp T Γ o s := by
  have hev : ∀ x ∈ o.op.operands, s'.ev x = s.ev x := fun x hx => ev_agree fun r hr => h r (List.mem_append_left _ (List.mem_flatMap.2 ⟨x, by simpa using hx, hr⟩))
  have hex : ∀ r ∈ extra s o, Agree s s' r := fun r hr => h r (List.mem_append_right _ hr)
  have hfl : ∀ (hh : isSelect o.op = false), flatOp o s' = flatOp o s := fun hh => by
    unfold flatOp
    rw [hh]
    have e1 : o.op.operands.toList.all (fun x => (s'.ev x).flat.isSome) = o.op.operands.toList.all (fun x => (s.ev x).flat.isSome) := by
      rw [Bool.eq_iff_iff, List.all_eq_true, List.all_eq_true]
      exact ⟨fun q x hx => by rw [← hev x (by simpa using hx)]; exact q x hx, fun q x hx => by rw [hev x (by simpa using hx)]; exact q x hx⟩
    have e2 : execOp s'.fv o = execOp s.fv o := execOp_congr o (fun cs b hc => by rw [hc] at hh; cases hh) fun x hx => by unfold AS.fv; rw [hev x hx]
    rw [e1, e2]
  obtain ⟨dst, op, type, pos, after, guard⟩ := o
  unfold stepOp
  simp only at hev hex hfl ⊢
  cases op with
  | move x => simp [isSpec, specOp, hev x (by simp [Op.operands])]
  | assign x => simp [isSpec, specOp, hev x (by simp [Op.operands])]
  | pick c x y => simp [isSpec, specOp, hev c (by simp [Op.operands]), hev x (by simp [Op.operands]), hev y (by simp [Op.operands])]
  | load t x =>
    have e := hev x (by simp [Op.operands])
    simp only [isSpec, if_true, specOp, e]
    have hx : ∀ r ∈ ptrOf (s.ev x), Agree s s' r := hex
    cases hq : s.ev x with
    | ptr b off =>
      rw [hq] at hx
      have q1 : s.bx b = s'.bx b := hx (.box b) (by simp [ptrOf])
      have q2 : s.tk (vm b) = s'.tk (vm b) := hx (.tok (vk b / 64)) (by simp [ptrOf]) _ (vm64 b)
      simp only [q1, q2]
    | _ => rfl
  | nilCheck x => simp [isSpec, specOp, hev x (by simp [Op.operands])]
  | fieldAddr t x f => simp [isSpec, specOp, hev x (by simp [Op.operands])]
  | indexAddr t x ix => simp [isSpec, specOp, hev x (by simp [Op.operands]), hev ix (by simp [Op.operands])]
  | field t x f => simp [isSpec, specOp, hev x (by simp [Op.operands])]
  | index t x ix => simp [isSpec, specOp, hev x (by simp [Op.operands]), hev ix (by simp [Op.operands])]
  | extract x i => simp [isSpec, specOp, hev x (by simp [Op.operands])]
  | convert src t x =>
    have e := hev x (by simp [Op.operands])
    have e1 : specOp T s' (.convert src t x) = specOp T s (.convert src t x) := by simp only [specOp, e]
    cases dst with
    | none => simp only [isSpec, Bool.false_eq_true, if_false, convOp, e1]
    | some d =>
      have q0 : s.tk (tD d 0) = s'.tk (tD d 0) := hex (.tok d) (by simp [extra, dsts]) _ (tD64 d 0 (by omega))
      simp only [isSpec, Bool.false_eq_true, if_false, convOp, bytesOp, e1, e, q0]
  | makeFunc fn fi ca =>
    have e1 : fi.toList.map s'.ev = fi.toList.map s.ev := List.map_congr_left fun x hx => hev x (by simp [Op.operands]; left; simpa using hx)
    have e2 : ca.toList.map s'.ev = ca.toList.map s.ev := List.map_congr_left fun x hx => hev x (by simp [Op.operands]; right; simpa using hx)
    simp [isSpec, specOp, e1, e2]
  | slice t x lo hi mx =>
    have e1 : lo.map s'.ev = lo.map s.ev := by cases lo with
      | none => rfl
      | some y => simp [hev y (by simp [Op.operands])]
    have e2 : hi.map s'.ev = hi.map s.ev := by cases hi with
      | none => rfl
      | some y => simp [hev y (by simp [Op.operands])]
    have e3 := hev x (by simp [Op.operands])
    cases mx with
    | some m => simp [isSpec, specOp]
    | none => simp only [isSpec, if_true, specOp, e1, e2, e3]
  | binOp bo t x y t2 =>
    have e1 := hev x (by simp [Op.operands])
    have e2 := hev y (by simp [Op.operands])
    have e3 := hfl rfl
    cases bo <;> simp [isSpec, specOp, binV, eqOp, e1, e2, e3]
  | makeSlice t l c =>
    cases dst with
    | none => rfl
    | some d =>
      have q1 : s.bx d = s'.bx d := hex (.box d) (by simp [extra, dsts])
      have q2 : s.tk (vk d) = s'.tk (vk d) := hex (.tok (vk d / 64)) (by simp [extra, dsts]) _ rfl
      have q3 : s.tk (tD d 0) = s'.tk (tD d 0) := hex (.tok d) (by simp [extra, dsts]) _ (by unfold tD; omega)
      simp [isSpec, makeOp, q1, q2, q3, hni, hev l (by simp [Op.operands]), hev c (by simp [Op.operands])]
  | unOp uo t x => simp [isSpec, hfl rfl]
  | alloc t =>
    cases dst with
    | none => rfl
    | some d =>
      have q1 : s.bx d = s'.bx d := hex (.box d) (by simp [extra, dsts])
      have q2 : s.tk (vk d) = s'.tk (vk d) := hex (.tok (vk d / 64)) (by simp [extra, dsts]) _ rfl
      simp [isSpec, allocOp, q1, q2, hni]
  | box t x =>
    cases dst with
    | none => rfl
    | some d =>
      have q1 : s.bx d = s'.bx d := hex (.box d) (by simp [extra, dsts])
      have q2 : s.tk (vk d) = s'.tk (vk d) := hex (.tok (vk d / 64)) (by simp [extra, dsts]) _ rfl
      simp [isSpec, boxOp, q1, q2, hni, hev x (by simp [Op.operands])]
  | store t x y =>
    cases dst with
    | some d => rfl
    | none =>
      have e := hev x (by simp [Op.operands])
      have e2 := hev y (by simp [Op.operands])
      have hx : ∀ r ∈ ptrOf (s.ev x), Agree s s' r := hex
      simp only [isSpec, Bool.false_eq_true, if_false, storeOp, e, e2]
      cases hq : s.ev x with
      | ptr b off =>
        rw [hq] at hx
        have : s.bx b = s'.bx b := hx (.box b) List.mem_cons_self
        cases T.i t <;> simp only [this]
      | _ => rfl
  | build t parts =>
    have e1 : (parts.toList.map fun p => (p.1, s'.ev p.2)) = parts.toList.map fun p => (p.1, s.ev p.2) := List.map_congr_left fun p hp => by
      rw [hev p.2 (by simp only [Op.operands]; simp; exact ⟨p.1, by simpa using hp⟩)]
    simp only [isSpec, Bool.false_eq_true, if_false, buildOp, e1]
  | buildSlice t len parts =>
    cases dst with
    | none => rfl
    | some d =>
      have e1 : (parts.toList.map fun p => (p.1, s'.ev p.2)) = parts.toList.map fun p => (p.1, s.ev p.2) := List.map_congr_left fun p hp => by
        rw [hev p.2 (by simp only [Op.operands]; simp; exact ⟨p.1, by simpa using hp⟩)]
      have q0 : s.tk (tD d 0) = s'.tk (tD d 0) := hex (.tok d) (by simp [extra, dsts]) _ (tD64 d 0 (by omega))
      have q1 : s.bx d = s'.bx d := hex (.box d) (by simp [extra, dsts])
      have q2 : s.tk (vk d) = s'.tk (vk d) := hex (.tok (vk d / 64)) (by simp [extra, dsts]) _ rfl
      simp only [isSpec, Bool.false_eq_true, if_false, buildSliceOp, e1, q0, q1, q2, hni]
  | call c =>
    obtain ⟨callee, args, ats⟩ := c
    cases callee with
    | value f =>
      have e1 : args.toList.map s'.ev = args.toList.map s.ev := List.map_congr_left fun x hx => hev x (by simp [Op.operands, Call.operands]; right; simpa using hx)
      have e2 := hev f (by simp [Op.operands, Call.operands])
      simp only [isSpec, Bool.false_eq_true, if_false, stepCall, callOp, e1, e2]
      cases hq : s.ev f with
      | fn g first captured =>
        cases g
        case func g0 =>
          obtain ⟨vs, hvs⟩ : ∃ vs, first ++ args.toList.map s.ev ++ captured = vs := ⟨_, rfl⟩
          simp only [hvs]
          have hx := hex
          simp only [extra, hq, hvs] at hx
          have h1 : ∀ r ∈ (boxL s vs).flatMap (boxRs s), Agree s s' r := fun r hr => hx r (List.mem_append_left _ hr)
          have h2 : ∀ r ∈ vs.flatMap tokOf, Agree s s' r := fun r hr => hx r (List.mem_append_right _ (List.mem_append_left _ hr))
          have h3 : ∀ r ∈ voidRs dst (boxL s vs) ++ dsts dst, Agree s s' r := fun r hr => hx r (List.mem_append_right _ (List.mem_append_right _ hr))
          have e3 := boxL_agree vs h1
          have e4 : ∀ tab r, retWr s' (boxL s vs) dst tab r = retWr s (boxL s vs) dst tab r := fun tab r => retWr_agree h1 h3 hni
          simp only [e3, e4, boxesV_agree _ 0 h1, argsV_agree vs 0 h2, argsT_agree vs 0 h2, boxesT_agree _ 0 h1]
        all_goals rfl
      | _ => rfl
    | invoke r m => rfl
    | builtin b =>
      have e3 := hfl rfl
      cases b with
      | len =>
        simp only [isSpec, if_true, specOp]
        cases hq : args.toList with
        | nil => rfl
        | cons x r =>
          cases r with
          | cons y r' => rfl
          | nil =>
            have : s'.ev x = s.ev x := hev x (by simp [Op.operands, Call.operands]; rw [← Array.mem_toList_iff, hq]; exact List.mem_cons_self)
            cases ats.toList with
            | nil => rfl
            | cons t r =>
              cases r with
              | nil => simp only [this]
              | cons _ _ => rfl
      | append =>
        simp only [isSpec, Bool.false_eq_true, if_false, stepCall]
        cases hq1 : args.toList with
        | nil => rfl
        | cons x r =>
          cases r with
          | nil => rfl
          | cons y r' =>
            cases r' with
            | cons z r'' => rfl
            | nil =>
              cases hq2 : ats.toList with
              | nil => rfl
              | cons t r =>
                cases r with
                | nil => rfl
                | cons t' r' =>
                  cases r' with
                  | cons z r'' => rfl
                  | nil =>
                    cases dst with
                    | none => rfl
                    | some d =>
                      have hx : s'.ev x = s.ev x := hev x (by simp [Op.operands, Call.operands]; rw [← Array.mem_toList_iff, hq1]; exact List.mem_cons_self)
                      have hy : s'.ev y = s.ev y := hev y (by simp [Op.operands, Call.operands]; rw [← Array.mem_toList_iff, hq1]; exact List.mem_cons_of_mem _ List.mem_cons_self)
                      have hxx : ∀ r ∈ tokOf (s.ev x) ++ (vsOf (s.ev x) ++ dsts (some d)), Agree s s' r := by
                        have := hex
                        simp only [extra, hq1] at this
                        exact this
                      simp only [appendOp_agree (T := T) (d := d) (t := t) hx hy hxx hni]
      | copy =>
        simp only [isSpec, Bool.false_eq_true, if_false, stepCall]
        cases hq1 : args.toList with
        | nil => rfl
        | cons x r =>
          cases r with
          | nil => rfl
          | cons y r' =>
            cases r' with
            | cons z r'' => rfl
            | nil =>
              have hx : s'.ev x = s.ev x := hev x (by simp [Op.operands, Call.operands]; rw [← Array.mem_toList_iff, hq1]; exact List.mem_cons_self)
              have hy : s'.ev y = s.ev y := hev y (by simp [Op.operands, Call.operands]; rw [← Array.mem_toList_iff, hq1]; exact List.mem_cons_of_mem _ List.mem_cons_self)
              have hxx : ∀ r ∈ vsOf (s.ev x) ++ vsOf (s.ev y), Agree s s' r := by
                have := hex
                simp only [extra, hq1] at this
                exact this
              have e0 : ∀ n len, copySrc s' n len (s.ev y) = copySrc s n len (s.ev y) := fun n len => by
                cases hq : s.ev y with
                | vs b off len n =>
                  have : s.bx b = s'.bx b := hxx (.box b) (List.mem_append_right _ (by rw [hq]; exact List.mem_cons_self))
                  simp only [copySrc, this]
                | _ => rfl
              have e : ∀ t, copyOp T s' dst t x y = copyOp T s dst t x y := fun t => by
                unfold copyOp
                rw [hx, hy]
                cases hq : s.ev x with
                | vs b off len n =>
                  have : s.bx b = s'.bx b := hxx (.box b) (List.mem_append_left _ (by rw [hq]; exact List.mem_cons_self))
                  simp only [this, e0]
                | _ => rfl
              cases hq2 : ats.toList with
              | nil => rfl
              | cons t r =>
                cases r with
                | nil => rfl
                | cons t' r' =>
                  cases r' with
                  | cons z r'' => rfl
                  | nil => simp only [e]
      | _ => simp only [isSpec, Bool.false_eq_true, if_false, stepCall, e3]
  | _ => rfl
end
end Go.Proofs.YtdmedeaknnldcaaGreatDoor
