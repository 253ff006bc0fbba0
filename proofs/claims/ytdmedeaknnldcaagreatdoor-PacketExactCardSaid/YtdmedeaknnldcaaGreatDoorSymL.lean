/- Regions that draw their order: any order is the text's. -/
import Derived.Test.YtdmedeaknnldcaaGreatDoorSymK
namespace Go.Proofs.YtdmedeaknnldcaaGreatDoor
open Go.RowKit
set_option linter.unusedVariables false
set_option linter.unusedSimpArgs false
set_option linter.unnecessarySimpa false
def gslot (ops : List Oper) (o : Oper) : Option (Nat × Bool) :=
  match o.guard with
  | none => none
  | some (j, want) => match (ops[j]?).bind (·.dst) with
    | some t => some (t, want)
    | none => none
def gval (ops : List Oper) (s : AS) (o : Oper) : Option Bool :=
  match o.guard with
  | none => some true
  | some _ => match gslot ops o with
    | some (t, want) => (match s.at t with | .v (.bool b) => some (b == want) | .v _ => some false | _ => none)
    | none => none
def gstep (T : Tab) (Γ : Gam) (ops : List Oper) (o : Oper) (s : AS) : Option (List Wr) :=
  match gval ops s o with
  | some true => stepOp T Γ o s
  | some false => some (AS.out o.dst (.v undef))
  | none => none
def greads (ops : List Oper) (s : AS) (o : Oper) : List Rs := (match gslot ops o with | some (t, _) => [.env t] | none => []) ++ reads s o
abbrev Trc := List (List Wr × List Rs)
def crun (T : Tab) (Γ : Gam) (ops : List Oper) : List Oper → AS → Option (Trc × AS)
  | [], s => some ([], s)
  | o :: r, s => match gstep T Γ ops o s with
    | some W => (match crun T Γ ops r (s.aps W) with | some (tr, s') => some ((W, greads ops s o) :: tr, s') | none => none)
    | none => none
def hits (xs ys : List Rs) : Bool := xs.any fun x => ys.any fun y => x.eqb y
def conf (p q : List Wr × List Rs) : Bool := hits (p.1.map Wr.at) q.2 || hits (p.1.map Wr.at) (q.1.map Wr.at) || hits p.2 (q.1.map Wr.at)
def bef1 (acc : List Nat) (o : Oper) : Nat := o.after.toList.foldl (fun m e => if Region.binds .any e then (m ||| 2 ^ e.on) ||| acc.getD e.on 0 else m) 0
def befs : List Oper → List Nat → List Nat
  | [], acc => acc
  | o :: r, acc => befs r (acc ++ [bef1 acc o])
/-- Each pair that is at odds is kept in order. -/
def okPairs (p : List Wr × List Rs) (i : Nat) : Trc → List Nat → Bool
  | q :: r, b :: bs => (b.testBit i || !conf p q) && okPairs p i r bs
  | [], [] => true
  | _, _ => false
def noconf : Trc → List Nat → Nat → Bool
  | p :: r, b :: bs, i => okPairs p i r bs && noconf r bs (i + 1)
  | [], [], _ => true
  | _, _, _ => false
theorem hits_iff (xs ys : List Rs) : hits xs ys = true ↔ ∃ r, r ∈ xs ∧ r ∈ ys := by
  unfold hits
  rw [List.any_eq_true]
  constructor
  · rintro ⟨x, hx, h⟩
    obtain ⟨y, hy, e⟩ := List.any_eq_true.1 h
    rw [Rs.eqb_iff] at e
    subst e
    exact ⟨x, hx, hy⟩
  · rintro ⟨r, h1, h2⟩
    exact ⟨r, h1, List.any_eq_true.2 ⟨r, h2, (Rs.eqb_iff r r).2 rfl⟩⟩
theorem okPairs_spec (p : List Wr × List Rs) (i : Nat) : ∀ (tr : Trc) (bs : List Nat), okPairs p i tr bs = true → tr.length = bs.length ∧ ∀ k (h : k < tr.length) (h' : k < bs.length), bs[k].testBit i = true ∨ conf p tr[k] = false
  | [], [], _ => ⟨rfl, fun k h => by cases h⟩
  | [], b :: bs, h => by cases h
  | q :: r, [], h => by cases h
  | q :: r, b :: bs, h => by
    simp only [okPairs, Bool.and_eq_true, Bool.or_eq_true, Bool.not_eq_true'] at h
    obtain ⟨h1, h2⟩ := okPairs_spec p i r bs h.2
    refine ⟨by simp [h1], fun k hk hk' => ?_⟩
    cases k with
    | zero => exact h.1
    | succ k => exact h2 k (by simpa using hk) (by simpa using hk')
theorem noconf_spec : ∀ (tr : Trc) (bs : List Nat) (i : Nat), noconf tr bs i = true → tr.length = bs.length ∧ ∀ j k (hj : j < tr.length) (hk : k < tr.length) (hk' : k < bs.length), j < k → bs[k].testBit (i + j) = true ∨ conf tr[j] tr[k] = false
  | [], [], _, _ => ⟨rfl, fun j k h => by cases h⟩
  | [], b :: bs, _, h => by cases h
  | q :: r, [], _, h => by cases h
  | p :: r, b :: bs, i, h => by
    simp only [noconf, Bool.and_eq_true] at h
    obtain ⟨h1, h2⟩ := okPairs_spec p i r bs h.1
    obtain ⟨h3, h4⟩ := noconf_spec r bs (i + 1) h.2
    refine ⟨by simp [h1], fun j k hj hk hk' hjk => ?_⟩
    cases k with
    | zero => omega
    | succ k =>
      cases j with
      | zero => exact h2 k (by simpa using hk) (by simpa using hk')
      | succ j =>
        have := h4 j k (by simpa using hj) (by simpa using hk) (by simpa using hk') (by omega)
        rw [show i + 1 + j = i + (j + 1) by omega] at this
        exact this
/-- What comes before, counted by bits. -/
def BefOk (ops : List Oper) (acc : List Nat) : Prop := ∀ (L : Nat → Bool), Closed ops.toArray L → ∀ i (h : i < acc.length), ∀ o, ops[i]? = some o → Came o L → ∀ j, (acc[i]).testBit j = true → L j = true
theorem bef1_spec {ops : List Oper} {acc : List Nat} (hlen : acc.length ≤ ops.length) (hacc : BefOk ops acc) {L : Nat → Bool} (hc : Closed ops.toArray L) : ∀ (es : List Edge) (m : Nat), (∀ e ∈ es, Region.binds .any e = true → L e.on = true) → (∀ j, m.testBit j = true → L j = true) →
    ∀ j, (es.foldl (fun m e => if Region.binds .any e then (m ||| 2 ^ e.on) ||| acc.getD e.on 0 else m) m).testBit j = true → L j = true
  | [], m, _, hm, j, h => hm j h
  | e :: es, m, he, hm, j, h => by
    refine bef1_spec hlen hacc hc es _ (fun e' h' => he e' (List.mem_cons_of_mem _ h')) (fun j hj => ?_) j h
    dsimp only at hj
    split at hj
    · rename_i hb
      have hL := he e List.mem_cons_self hb
      rw [Nat.testBit_or, Nat.testBit_or, Bool.or_eq_true, Bool.or_eq_true] at hj
      rcases hj with (hj | hj) | hj
      · exact hm j hj
      · rw [Nat.testBit_two_pow] at hj
        have : e.on = j := by simpa using hj
        rw [← this]; exact hL
      · by_cases hlt : e.on < acc.length
        · have e1 : acc.getD e.on 0 = acc[e.on] := by simp [List.getD, List.getElem?_eq_getElem hlt]
          rw [e1] at hj
          have ho : ops[e.on]? = some (ops[e.on]'(by omega)) := List.getElem?_eq_getElem (by omega)
          exact hacc L hc e.on hlt _ ho (hc e.on _ (by simpa using ho) hL) j hj
        · have e1 : acc.getD e.on 0 = 0 := by simp [List.getD, List.getElem?_eq_none (by omega : acc.length ≤ e.on)]
          rw [e1] at hj
          simp at hj
    · exact hm j hj
theorem befs_spec {ops : List Oper} : ∀ (r : List Oper) (acc : List Nat), (∀ k, r[k]? = ops[acc.length + k]?) → acc.length ≤ ops.length → BefOk ops acc → BefOk ops (befs r acc) ∧ (befs r acc).length = acc.length + r.length
  | [], acc, _, _, h => ⟨h, rfl⟩
  | o :: r, acc, hr, hl, h => by
    have h0 : ops[acc.length]? = some o := by simpa using (hr 0).symm
    have hlt : acc.length < ops.length := (List.getElem?_eq_some_iff.1 h0).1
    obtain ⟨q1, q2⟩ := befs_spec (ops := ops) r (acc ++ [bef1 acc o]) (fun k => by
      have := hr (k + 1)
      simp only [List.getElem?_cons_succ] at this
      rw [this, List.length_append]
      congr 1
      simp; omega) (by simp; omega) (fun L hc i hi o' ho' hcame j hj => by
      by_cases hia : i < acc.length
      · rw [List.getElem_append_left hia] at hj
        exact h L hc i hia o' ho' hcame j hj
      · have e : i = acc.length := by simp at hi; omega
        subst e
        rw [List.getElem_append_right (Nat.le_refl _)] at hj
        simp only [Nat.sub_self, List.getElem_cons_zero] at hj
        rw [h0] at ho'
        cases ho'
        exact bef1_spec hl h hc o.after.toList 0 (fun e he hb => hcame e (by simpa using he) hb) (fun j hj => by simp at hj) j hj)
    exact ⟨q1, by unfold befs; rw [q2]; simp; omega⟩

/-! ### The state behind what has come -/
inductive Vl where
  | e (v : AV)
  | b (v : Option (List AV))
  | t (v : Nat → Option Bool)
def AS.get (s : AS) : Rs → Vl
  | .env t => .e (s.at t)
  | .box b => .b (s.bx b)
  | .tok F => .t fun i => if i / 64 = F then s.tk i else none
theorem agree_get {s s' : AS} {r : Rs} : s.get r = s'.get r → Agree s s' r := by
  cases r with
  | tok F =>
    intro h t ht
    have h' : (fun i => if i / 64 = F then s.tk i else none) = fun i => if i / 64 = F then s'.tk i else none := by simpa only [AS.get, Vl.t.injEq] using h
    have := congrFun h' t
    simpa only [ht, if_true] using this
  | _ => intro h; simpa [AS.get, Agree] using h
structure Like (s s' : AS) : Prop where
  el : s.env.length = s'.env.length
  nl : s.nin = s'.nin
theorem Like.ap {s s' : AS} (h : Like s s') (W W' : Wr) : Like (s.ap W) (s'.ap W') := by
  obtain ⟨h1, h3⟩ := h
  cases W <;> cases W' <;> exact ⟨by simpa [AS.ap] using h1, h3⟩
theorem Like.aps1 {s s' : AS} (h : Like s s') : ∀ (W : List Wr), Like (s.aps W) s'
  | [] => h
  | x :: W => by
    have : Like (s.ap x) s' := by
      obtain ⟨h1, h3⟩ := h
      cases x <;> exact ⟨by simpa [AS.ap] using h1, h3⟩
    exact Like.aps1 this W
theorem Like.symm {s s' : AS} (h : Like s s') : Like s' s := ⟨h.el.symm, h.nl.symm⟩
theorem Like.trans {s s' s'' : AS} (h : Like s s') (h' : Like s' s'') : Like s s'' := ⟨h.el.trans h'.el, h.nl.trans h'.nl⟩
theorem Like.aps {s s' : AS} (h : Like s s') (W W' : List Wr) : Like (s.aps W) (s'.aps W') := ((h.aps1 W).symm.aps1 W').symm
theorem get_ap (s : AS) (x : Wr) (r : Rs) (h : x.at ≠ r) : (s.ap x).get r = s.get r := by
  cases x with
  | env t v =>
    cases r with
    | env t' =>
      show Vl.e _ = Vl.e _
      rw [AS.at_set, if_neg (fun e => h (by rw [e.1]; rfl))]
    | _ => rfl
  | box b v =>
    cases r with
    | box b' =>
      show Vl.b _ = Vl.b _
      rw [AS.bx_set, if_neg (fun e => h (by rw [e]; rfl))]
    | _ => rfl
  | tok t v =>
    cases r with
    | tok F =>
      show Vl.t _ = Vl.t _
      congr 1
      funext i
      by_cases hi : i / 64 = F
      · rw [if_pos hi, if_pos hi, AS.tk_set, if_neg (fun e => h (by rw [← hi, e]; rfl))]
      · rw [if_neg hi, if_neg hi]
    | _ => rfl
theorem get_ap_same {s s' : AS} (hl : Like s s') (x : Wr) (r : Rs) (h : s.get r = s'.get r) : (s.ap x).get r = (s'.ap x).get r := by
  by_cases hx : x.at = r
  · subst hx
    cases x with
    | env t v =>
      have h' : s.at t = s'.at t := by simpa [AS.get, Wr.at] using h
      show Vl.e _ = Vl.e _
      rw [AS.at_set, AS.at_set, hl.el, h']
    | box b v =>
      have h' : s.bx b = s'.bx b := by simpa [AS.get, Wr.at] using h
      show Vl.b _ = Vl.b _
      rw [AS.bx_set, AS.bx_set, h']
    | tok t v =>
      have h' : (fun i => if i / 64 = t / 64 then s.tk i else none) = fun i => if i / 64 = t / 64 then s'.tk i else none := by simpa only [AS.get, Wr.at, Vl.t.injEq] using h
      show Vl.t _ = Vl.t _
      congr 1
      funext i
      have := congrFun h' i
      by_cases hi : i / 64 = t / 64
      · rw [if_pos hi, if_pos hi] at this ⊢
        rw [AS.tk_set, AS.tk_set, this]
      · rw [if_neg hi, if_neg hi]
  · rw [get_ap s x r hx, get_ap s' x r hx]; exact h
theorem get_aps : ∀ (W : List Wr) (s : AS) (r : Rs), r ∉ W.map Wr.at → (s.aps W).get r = s.get r
  | [], s, r, _ => rfl
  | x :: W, s, r, h => by
    show ((s.ap x).aps W).get r = _
    rw [get_aps W _ r (fun e => h (by simp only [List.map_cons]; exact List.mem_cons_of_mem _ e)), get_ap s x r (fun e => h (by simp only [List.map_cons]; rw [e]; exact List.mem_cons_self))]
theorem get_aps_same : ∀ (W : List Wr) (s s' : AS) (r : Rs), Like s s' → s.get r = s'.get r → (s.aps W).get r = (s'.aps W).get r
  | [], _, _, _, _, h => h
  | x :: W, s, s', r, hl, h => get_aps_same W (s.ap x) (s'.ap x) r (hl.ap x x) (get_ap_same hl x r h)
def mrg (L : Nat → Bool) : Nat → Trc → AS → AS
  | _, [], s => s
  | i, p :: r, s => mrg L (i + 1) r (if L i then s.aps p.1 else s)
theorem mrg_like (L : Nat → Bool) : ∀ (tr : Trc) (i : Nat) (s s' : AS), Like s s' → Like (mrg L i tr s) s'
  | [], _, _, _, h => h
  | p :: r, i, s, s', h => by
    unfold mrg
    refine mrg_like L r (i + 1) _ s' ?_
    split
    · exact h.aps1 p.1
    · exact h
theorem mrg_get (L L' : Nat → Bool) (r : Rs) : ∀ (tr : Trc) (i : Nat) (s s' : AS), Like s s' → s.get r = s'.get r → (∀ k (h : k < tr.length), L (i + k) = L' (i + k) ∨ r ∉ (tr[k]).1.map Wr.at) → (mrg L i tr s).get r = (mrg L' i tr s').get r
  | [], _, _, _, _, h, _ => h
  | p :: t, i, s, s', hl, h, hk => by
    unfold mrg
    have h0 := hk 0 (by simp)
    simp only [Nat.add_zero, List.getElem_cons_zero] at h0
    have hnext : ∀ k (h : k < t.length), L (i + 1 + k) = L' (i + 1 + k) ∨ r ∉ (t[k]).1.map Wr.at := fun k hk' => by
      have := hk (k + 1) (by simpa using hk')
      simp only [List.getElem_cons_succ] at this
      rw [show i + 1 + k = i + (k + 1) by omega]; exact this
    rcases h0 with h0 | h0
    · rw [h0]
      split
      · exact mrg_get L L' r t (i + 1) _ _ (hl.aps p.1 p.1) (get_aps_same p.1 s s' r hl h) hnext
      · exact mrg_get L L' r t (i + 1) _ _ hl h hnext
    · refine mrg_get L L' r t (i + 1) _ _ ?_ ?_ hnext
      · split <;> split
        · exact hl.aps p.1 p.1
        · exact hl.aps1 p.1
        · exact (hl.symm.aps1 p.1).symm
        · exact hl
      · split <;> split
        · rw [get_aps p.1 s r h0, get_aps p.1 s' r h0]; exact h
        · rw [get_aps p.1 s r h0]; exact h
        · rw [get_aps p.1 s' r h0]; exact h
        · exact h
/-- The state ahead of number i, in the text's order. -/
theorem mrg_none (L : Nat → Bool) : ∀ (tr : Trc) (i : Nat) (s : AS), (∀ k, k < tr.length → L (i + k) = false) → mrg L i tr s = s
  | [], _, _, _ => rfl
  | p :: r, i, s, h => by
    unfold mrg
    have h0 := h 0 (by simp)
    rw [Nat.add_zero] at h0
    rw [h0]
    exact mrg_none L r (i + 1) s fun k hk => by rw [show i + 1 + k = i + (k + 1) by omega]; exact h (k + 1) (by simpa using hk)
theorem mrg_step : ∀ (tr : Trc) (i k : Nat) (h : k < tr.length) (s : AS), mrg (fun j => decide (j < i + k + 1)) i tr s = (mrg (fun j => decide (j < i + k)) i tr s).aps (tr[k]).1
  | p :: r, i, 0, h, s => by
    unfold mrg
    have e1 : decide (i < i + 0 + 1) = true := by simp
    have e2 : decide (i < i + 0) = false := by simp
    rw [e1, e2]
    simp only [if_true, Bool.false_eq_true, if_false, List.getElem_cons_zero]
    rw [mrg_none _ r (i + 1) _ (fun k hk => by simp; try omega), mrg_none _ r (i + 1) _ (fun k hk => by simp; try omega)]
  | p :: r, i, k + 1, h, s => by
    unfold mrg
    have e1 : decide (i < i + (k + 1) + 1) = true := decide_eq_true (by omega)
    have e2 : decide (i < i + (k + 1)) = true := decide_eq_true (by omega)
    rw [e1, e2]
    simp only [if_true, List.getElem_cons_succ]
    have := mrg_step r (i + 1) k (by simpa using h) (s.aps p.1)
    rw [show i + 1 + k = i + (k + 1) by omega] at this
    exact this
/-- The text's order, step by step. -/
theorem crun_spec {T : Tab} {Γ : Gam} {ops : List Oper} : ∀ (r : List Oper) (s s' : AS) (tr : Trc) (i : Nat), crun T Γ ops r s = some (tr, s') → tr.length = r.length ∧ mrg (fun j => decide (j < i + tr.length)) i tr s = s' ∧
    ∀ k (h : k < tr.length) (h' : k < r.length), gstep T Γ ops r[k] (mrg (fun j => decide (j < i + k)) i tr s) = some (tr[k]).1 ∧ (tr[k]).2 = greads ops (mrg (fun j => decide (j < i + k)) i tr s) r[k]
  | [], s, s', tr, i, h => by cases h; exact ⟨rfl, rfl, fun k h => by cases h⟩
  | o :: r, s, s', tr, i, h => by
    unfold crun at h
    split at h
    · rename_i W hW
      split at h
      · rename_i tr' s'' hr
        cases h
        obtain ⟨h1, h2, h3⟩ := crun_spec r (s.aps W) s' tr' (i + 1) hr
        have first : ∀ n, 0 < n → mrg (fun j => decide (j < i + n)) i ((W, greads ops s o) :: tr') s = mrg (fun j => decide (j < i + n)) (i + 1) tr' (s.aps W) := fun n hn => by
          conv => lhs; unfold mrg
          have e1 : decide (i < i + n) = true := decide_eq_true (by omega)
          rw [e1]
          rfl
        refine ⟨by simp [h1], ?_, fun k hk hk' => ?_⟩
        · rw [first _ (by simp)]
          rw [show i + ((W, greads ops s o) :: tr').length = i + 1 + tr'.length by simp; omega]
          exact h2
        · cases k with
          | zero =>
            have e0 : mrg (fun j => decide (j < i + 0)) i ((W, greads ops s o) :: tr') s = s := mrg_none _ _ _ _ fun k hk => by simp
            rw [e0]
            exact ⟨hW, rfl⟩
          | succ k =>
            rw [first _ (by omega), show i + (k + 1) = i + 1 + k by omega]
            exact h3 k (by simpa using hk) (by simpa using hk')
      · cases h
    · cases h
end Go.Proofs.YtdmedeaknnldcaaGreatDoor
