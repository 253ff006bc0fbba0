/- Equality of structs; lists and nil. -/
import Derived.Test.YtdmedeaknnldcaaGreatDoorSymV
import Derived.Laws.StructEq
namespace Go.Proofs.YtdmedeaknnldcaaGreatDoor
open Go.RowKit
set_option linter.unusedVariables false
set_option linter.unusedSimpArgs false
set_option linter.unnecessarySimpa false
def eq1 (d : TypeDesc) (x y : AV) : Option Bool :=
  match d with
  | .int _ => (match x, y with | .v (.int k a), .v (.int k' b) => if k = k' then some (a == b) else none | _, _ => none)
  | .bool => (match x, y with | .v (.bool a), .v (.bool b) => some (a == b) | _, _ => none)
  | .string => (match x, y with | .v (.string a), .v (.string b) => some (a == b) | _, _ => none)
  | _ => none
def subC (T : Tab) (t : TypeId) (cx : List AV) (off : Nat) : Option (List AV) :=
  match T.i t with
  | some i => if off + i.1 ≤ cx.length then some ((cx.drop off).take i.1) else none
  | none => none
def eqFs (T : Tab) (r : TypeId → List AV → List AV → Option Bool) (cx cy : List AV) : List Field → Option Bool
  | [] => some true
  | fd :: l =>
    if fd.name = "_" then none else
    match subC T fd.type cx fd.offset, subC T fd.type cy fd.offset with
    | some a, some b =>
      (match r fd.type a b, eqFs T r cx cy l with
      | some p, some q => some (p && q)
      | _, _ => none)
    | _, _ => none
def eqT (T : Tab) : Nat → TypeId → List AV → List AV → Option Bool
  | 0, _, _, _ => none
  | f + 1, t, cx, cy =>
    match T.u t with
    | some (.struct fs) => if T.q t = true then eqFs T (eqT T f) cx cy fs.toList else none
    | some d => if isRowT d then none else (match cx, cy with | [x], [y] => eq1 d x y | _, _ => none)
    | none => none
def negB (neg b : Bool) : Bool := match neg with
  | true => !b
  | false => b
def eqOp (T : Tab) (s : AS) (neg : Bool) (t : TypeId) (x y : Operand) : Option AV :=
  match s.ev x, s.ev y with
  | .agg cx, .agg cy =>
    if T.q t = true then
      (match T.u t with
      | some (.struct _) => (match eqT T 20 t cx cy with | some b => some (.v (.bool (negB neg b))) | none => none)
      | _ => none)
    else none
  | .list _ xs _, .v (.slice none 0 0) => (match T.u t with | some (.slice _) => (match xs with | [] => some .ub | _ :: _ => some (.v (.bool neg))) | _ => none)
  | .vs .., .v (.slice none 0 0) => (match T.u t with | some (.slice _) => some .ub | _ => none)
  | .v (.bool p), .v (.bool q) => (match T.u t with | some .bool => some (.v (.bool (negB neg (p == q)))) | _ => none)
  | _, _ => none
def binV (T : Tab) (s : AS) (o : Oper) (op : BinOp) (t : TypeId) (x y : Operand) : Option AV :=
  match op, s.ev x with
  | .eql, .agg _ => eqOp T s false t x y
  | .eql, .list _ _ _ => eqOp T s false t x y
  | .eql, .vs .. => eqOp T s false t x y
  | .eql, .v (.bool _) => eqOp T s false t x y
  | .neq, .agg _ => eqOp T s true t x y
  | .neq, .list _ _ _ => eqOp T s true t x y
  | .neq, .vs .. => eqOp T s true t x y
  | .neq, .v (.bool _) => eqOp T s true t x y
  | _, _ => (flatOp o s).map nrm
section
variable {P : Program} {T : Tab} {B : Base} {M : Mem} {ρ : Rho} {σ : Sig} {s : AS} {a : Act} {w : World}
def EqV (M : Mem) (ρ : Rho) (σ : Sig) (d : TypeDesc) (v : Value) (cs : List AV) : Prop :=
  (isRowT d = true → ∃ a, v = .agg a ∧ Pw M ρ σ a cs) ∧ (isRowT d = false → ∀ x, cs = [x] → Rd M ρ σ v x)
theorem subC_part (hT : TabOk P T) {t : TypeId} {d : TypeDesc} (hu : P.underlying t = some d) {xs : Array Value} {cx cs : List AV} {off : Nat} (hp : Pw M ρ σ xs cx) (h : subC T t cx off = some cs) : ∃ v, (part t xs off).run P w = .ok v w ∧ ((isRowT d = true → EqV M ρ σ d v cs) ∧ (isRowT d = false → ∀ x, cs = [x] → Rd M ρ σ v x)) ∨ (isRowT d = false ∧ ∀ x, cs ≠ [x]) := by
  unfold subC at h
  split at h
  · rename_i p hi
    obtain ⟨i, hi, hp1, hp2⟩ := hT.i _ _ hi
    rw [← hp1] at h
    split at h
    · rename_i hle
      cases h
      obtain ⟨p1, p2, p3⟩ := hp
      cases hr : isRowT d with
      | true =>
        refine ⟨.agg (xs.extract off (off + i.size)), .inl ⟨?_, fun _ => ⟨fun _ => ⟨_, rfl, ?_⟩, fun h => by rw [hr] at h; cases h⟩, fun h => by cases h⟩⟩
        · unfold part
          simp only [Sem.run_bind, run_isAgg' hu, Result.andThen_ok, hr, if_true, run_sizeOf' hi, Sem.run_pure]
        · refine ⟨by simp; omega, fun j hj => ?_, fun j hj hj' => ?_⟩
          · simp at hj ⊢; exact p2 _ _
          · simp at hj ⊢; exact p3 _ _ _
      | false =>
        by_cases h1 : ∃ x, (cx.drop off).take i.size = [x]
        · obtain ⟨x, hx⟩ := h1
          have hl := congrArg List.length hx
          simp at hl
          have hlt : off < xs.size := by omega
          refine ⟨xs[off], .inl ⟨?_, fun h => (by cases h), fun _ x' hx' => ?_⟩⟩
          · unfold part
            simp only [Sem.run_bind, run_isAgg' hu, Result.andThen_ok, hr, Bool.false_eq_true, if_false]
            rw [Array.getElem?_eq_getElem hlt]
            rfl
          · have e : cx[off]'(by omega) = x' := by
              have e1 : ((cx.drop off).take i.size)[0]? = some x' := by rw [hx']; rfl
              rw [List.getElem?_take] at e1
              split at e1
              · rw [List.getElem?_drop, Nat.add_zero, List.getElem?_eq_getElem (by omega)] at e1
                exact Option.some.inj e1
              · cases e1
            rw [← e]
            exact p3 _ _ _
        · exact ⟨undef, .inr ⟨rfl, fun x hx => h1 ⟨x, hx⟩⟩⟩
    · cases h
  · cases h
theorem eqT_ok (hT : TabOk P T) : ∀ (f : Nat) (t : TypeId) (cx cy : List AV) (r : Bool), eqT T f t cx cy = some r → ∃ d0, P.underlying t = some d0 ∧ (isRowT d0 = false → ∃ x y, cx = [x] ∧ cy = [y]) ∧ ∀ d, f ≤ d → ∀ vx vy, EqV M ρ σ d0 vx cx → EqV M ρ σ d0 vy cy → (Op.equalIn d t vx vy).run P w = .ok r w
  | 0, t, cx, cy, r, h => by cases h
  | f + 1, t, cx, cy, r, h => by
    unfold eqT at h
    split at h
    · rename_i fs hu
      replace hu := hT.u _ _ hu
      split at h
      · rename_i hq
        refine ⟨_, hu, (fun (hh : isRowT (.struct fs) = false) => by simp [isRowT] at hh), fun d hd vx vy hx hy => ?_⟩
        obtain ⟨xs, rfl, px⟩ := hx.1 rfl
        obtain ⟨ys, rfl, py⟩ := hy.1 rfl
        obtain ⟨d', rfl⟩ : ∃ d', d = d' + 1 := ⟨d - 1, by omega⟩
        have hf : P.fieldsOf t = fs := by unfold Program.fieldsOf; rw [hu]
        rw [run_equalIn_agg w d' t xs ys (by rw [hf]; exact hu) (hT.q t hq).1, hf]
        generalize fs.toList = l at h
        induction l generalizing r with
        | nil => cases h; simp [Op.eqFields]
        | cons fd l ih =>
          unfold eqFs at h
          split at h
          · cases h
          · rename_i hn
            split at h
            · rename_i ca cb ha hb
              split at h
              · rename_i p q hp hq'
                cases h
                obtain ⟨d1, u1, u2, u3⟩ := eqT_ok hT f _ _ _ _ hp
                have vals : ∃ va vb, (part fd.type xs fd.offset).run P w = .ok va w ∧ (part fd.type ys fd.offset).run P w = .ok vb w ∧ EqV M ρ σ d1 va ca ∧ EqV M ρ σ d1 vb cb := by
                  obtain ⟨va, q1⟩ := subC_part (w := w) hT u1 px ha
                  obtain ⟨vb, q2⟩ := subC_part (w := w) hT u1 py hb
                  rcases q1 with ⟨q1, q1a, q1b⟩ | ⟨n1, n2⟩
                  · rcases q2 with ⟨q2, q2a, q2b⟩ | ⟨n1, n2⟩
                    · exact ⟨va, vb, q1, q2, ⟨fun h => (q1a h).1 h, q1b⟩, ⟨fun h => (q2a h).1 h, q2b⟩⟩
                    · obtain ⟨x, y, e1, e2⟩ := u2 n1; exact absurd e2 (n2 y)
                  · obtain ⟨x, y, e1, e2⟩ := u2 n1; exact absurd e1 (n2 x)
                obtain ⟨va, vb, r1, r2, e1, e2⟩ := vals
                have r3 := u3 d' (by omega) va vb e1 e2
                have ih' := ih q hq'
                simp only [Op.eqFields, Sem.run_bind, Sem.run_ite]
                rw [if_pos hn]
                simp only [r1, r2, r3, Result.andThen_ok]
                cases p with
                | true => simp only [Bool.not_true, Bool.false_eq_true, if_false, Bool.true_and]; exact ih'
                | false => simp
              · cases h
            · cases h
      · cases h
    · rename_i d0 hnst hu
      replace hu := hT.u _ _ hu
      split at h
      · cases h
      · rename_i hrow
        have hrow' : isRowT d0 = false := by cases hq : isRowT d0 <;> simp_all
        split at h
        · rename_i x y
          refine ⟨d0, hu, fun _ => ⟨x, y, rfl, rfl⟩, fun d hd vx vy hx hy => ?_⟩
          obtain ⟨d', rfl⟩ : ∃ d', d = d' + 1 := ⟨d - 1, by omega⟩
          have rx := hx.2 hrow' x rfl
          have ry := hy.2 hrow' y rfl
          unfold eq1 at h
          split at h
          · split at h
            · split at h
              · rename_i hk; subst hk; cases h
                rw [rx.v_inv, ry.v_inv]
                exact run_equalIn_int w d' t _ _ _ _ hu
              · cases h
            · cases h
          · split at h
            · cases h
              rw [rx.v_inv, ry.v_inv]
              exact run_equalIn_bool' w d' t _ _ hu
            · cases h
          · split at h
            · cases h
              rw [rx.v_inv, ry.v_inv, run_equalIn_string w d' t _ _ hu, beq_toListBytes]
            · cases h
          · cases h
        · cases h
    · cases h
theorem run_equalIn_nil (w : World) {t e : TypeId} (hu : P.underlying t = some (.slice e)) (d : Nat) (ad : Addr) (l c : Nat) : (Op.equalIn (d + 1) t (.slice (some ad) l c) (.slice none 0 0)).run P w = .ok false w := by
  simp [Op.equalIn, run_underlying hu]
theorem run_eql_nil (w : World) {t e : TypeId} (hu : P.underlying t = some (.slice e)) {ad : Addr} {l c : Nat} : (binOp .eql t (.slice (some ad) l c) (.slice none 0 0)).run P w = .ok (.bool false) w := by
  simp only [binOp]
  rw [Sem.run_bind]
  unfold Op.equal Op.maxDepth
  rw [run_equalIn_nil w hu 9999 ad l c]
  rfl
theorem run_neq_nil (w : World) {t e : TypeId} (hu : P.underlying t = some (.slice e)) {ad : Addr} {l c : Nat} : (binOp .neq t (.slice (some ad) l c) (.slice none 0 0)).run P w = .ok (.bool true) w := by
  simp only [binOp]
  rw [Sem.run_bind]
  unfold Op.equal Op.maxDepth
  rw [run_equalIn_nil w hu 9999 ad l c]
  rfl
theorem run_equalIn_nn (w : World) {t e : TypeId} (hu : P.underlying t = some (.slice e)) (d : Nat) : (Op.equalIn (d + 1) t (.slice none 0 0) (.slice none 0 0)).run P w = .ok true w := by
  simp [Op.equalIn, run_underlying hu]
theorem nil_yields (w : World) {o : Oper} {op : BinOp} {t t2 e : TypeId} {x y : Operand} (ho : o.op = .binOp op t x y t2) (hu : P.underlying t = some (.slice e)) {neg : Bool} (hop : op = .eql ∧ neg = false ∨ op = .neq ∧ neg = true) (hy : a.eval y = .slice none 0 0) (hx : a.eval x = .slice none 0 0 ∨ ∃ ad l c, a.eval x = .slice (some ad) l c) :
    ∃ b, (execOp a.eval o).run P w = .ok (.value (.bool b)) w ∧ ((∃ ad l c, a.eval x = .slice (some ad) l c) → b = neg) := by
  have g1 : ∀ xv, (eqGuard op t x y xv (.slice none 0 0)).run P w = .ok () w := fun xv => by
    rcases hop with ⟨rfl, rfl⟩ | ⟨rfl, rfl⟩ <;> cases xv <;> simp [eqGuard]
  rcases hx with hx | ⟨ad, l, c, hx⟩
  · refine ⟨!neg, ?_, fun ⟨ad, l, c, e⟩ => by rw [hx] at e; cases e⟩
    unfold execOp
    simp only [ho, hx, hy, Sem.run_bind]
    rw [g1]
    simp only [Result.andThen_ok]
    rcases hop with ⟨rfl, rfl⟩ | ⟨rfl, rfl⟩
    · simp only [binOp]
      rw [Sem.run_bind]
      unfold Op.equal Op.maxDepth
      rw [run_equalIn_nn w hu 9999]
      rfl
    · simp only [binOp]
      rw [Sem.run_bind]
      unfold Op.equal Op.maxDepth
      rw [run_equalIn_nn w hu 9999]
      rfl
  · refine ⟨neg, ?_, fun _ => rfl⟩
    unfold execOp
    simp only [ho, hx, hy, Sem.run_bind]
    rw [g1]
    simp only [Result.andThen_ok]
    rcases hop with ⟨rfl, rfl⟩ | ⟨rfl, rfl⟩
    · rw [run_eql_nil w hu]; rfl
    · rw [run_neq_nil w hu]; rfl
theorem bin_yields (hT : TabOk P T) (h : SimW B M ρ σ s a w) {o : Oper} {op : BinOp} {t t2 : TypeId} {x y : Operand} (ho : o.op = .binOp op t x y t2) {v : AV} (hv : binV T s o op t x y = some v) : Yields P M ρ σ a w o v := by
  have hx := h.ev x
  have hy := h.ev y
  have go : ∀ neg, (op = .eql ∧ neg = false ∨ op = .neq ∧ neg = true) → eqOp T s neg t x y = some v → Yields P M ρ σ a w o v := fun neg hop hv => by
    unfold eqOp at hv
    split at hv
    · rename_i cx cy hxe hye
      rw [hxe] at hx
      rw [hye] at hy
      split at hv
      · rename_i hq
        split at hv
        · rename_i fs hu
          split at hv
          · rename_i b hb
            cases hv
            obtain ⟨d0, u1, -, u3⟩ := eqT_ok (M := M) (ρ := ρ) (σ := σ) (w := w) hT 20 t cx cy b hb
            have e0 : d0 = .struct fs := by
              have := hT.u _ _ hu
              rw [u1] at this; exact Option.some.inj this
            subst e0
            generalize hqx : a.eval x = xv at hx
            generalize hqy : a.eval y = yv at hy
            cases hx with
            | @agg _ _ xs _ hl h1 hr =>
            cases hy with
            | @agg _ _ ys _ hl' h1' hr' =>
            have r := u3 10000 (by omega) (.agg xs) (.agg ys) ⟨fun _ => ⟨_, rfl, hl, h1, hr⟩, fun h => by cases h⟩ ⟨fun _ => ⟨_, rfl, hl', h1', hr'⟩, fun h => by cases h⟩
            refine ⟨.bool (negB neg b), ?_, .v⟩
            unfold execOp
            simp only [ho, hqx, hqy, Sem.run_bind]
            rw [run_eqGuard_agg w op t x y xs ys (hT.q t hq).2]
            simp only [Result.andThen_ok]
            rcases hop with ⟨rfl, rfl⟩ | ⟨rfl, rfl⟩
            · rw [run_eql_struct, r]; rfl
            · rw [run_neq_struct, r]; rfl
          · cases hv
        · cases hv
      · cases hv
    · rename_i n xs tk hxe hye
      rw [hxe] at hx
      rw [hye] at hy
      split at hv
      · rename_i e hu
        replace hu := hT.u _ _ hu
        have hxc : a.eval x = .slice none 0 0 ∨ ∃ ad l c, a.eval x = .slice (some ad) l c := by
          generalize a.eval x = xv at hx
          cases hx with
          | nil => exact .inl rfl
          | list => exact .inr ⟨_, _, _, rfl⟩
        obtain ⟨b, h1, h2⟩ := nil_yields (P := P) w ho hu hop hy.v_inv hxc
        split at hv
        · cases hv; exact ⟨_, h1, .ub⟩
        · cases hv
          refine ⟨_, h1, ?_⟩
          rw [h2 (by
            generalize a.eval x = xv at hx
            cases hx with
            | list => exact ⟨_, _, _, rfl⟩)]
          exact .v
      · cases hv
    · rename_i hxe hye
      rw [hxe] at hx
      rw [hye] at hy
      split at hv
      · rename_i e hu
        replace hu := hT.u _ _ hu
        have hxc : a.eval x = .slice none 0 0 ∨ ∃ ad l c, a.eval x = .slice (some ad) l c := by
          generalize a.eval x = xv at hx
          cases hx with
          | vs => exact .inr ⟨_, _, _, rfl⟩
          | vsn => exact .inl rfl
          | vse => exact .inr ⟨_, _, _, rfl⟩
        obtain ⟨b, h1, h2⟩ := nil_yields (P := P) w ho hu hop hy.v_inv hxc
        cases hv
        exact ⟨_, h1, .ub⟩
      · cases hv
    · rename_i p q hxe hye
      rw [hxe] at hx
      rw [hye] at hy
      split at hv
      · rename_i hu
        cases hv
        have he : eqT T 1 t [.v (.bool p)] [.v (.bool q)] = some (p == q) := by
          unfold eqT
          rw [hu]
          rfl
        obtain ⟨d0, u1, -, u3⟩ := eqT_ok (M := M) (ρ := ρ) (σ := σ) (w := w) hT 1 t _ _ _ he
        have e0 : d0 = .bool := by
          have := hT.u _ _ hu
          rw [u1] at this; exact Option.some.inj this
        subst e0
        have r := u3 10000 (by omega) (.bool p) (.bool q) ⟨fun h => (by cases h), fun _ x hx => (by cases hx; exact .v)⟩ ⟨fun h => (by cases h), fun _ x hx => (by cases hx; exact .v)⟩
        refine ⟨.bool (negB neg (p == q)), ?_, .v⟩
        unfold execOp
        rcases hop with ⟨rfl, rfl⟩ | ⟨rfl, rfl⟩
        · simp [ho, hx.v_inv, hy.v_inv, eqGuard, binOp]
          unfold Op.equal Op.maxDepth
          rw [r]; rfl
        · simp [ho, hx.v_inv, hy.v_inv, eqGuard, binOp]
          unfold Op.equal Op.maxDepth
          rw [r]; rfl
      · cases hv
    · cases hv
  unfold binV at hv
  split at hv
  · exact go false (.inl ⟨rfl, rfl⟩) hv
  · exact go false (.inl ⟨rfl, rfl⟩) hv
  · exact go false (.inl ⟨rfl, rfl⟩) hv
  · exact go false (.inl ⟨rfl, rfl⟩) hv
  · exact go true (.inr ⟨rfl, rfl⟩) hv
  · exact go true (.inr ⟨rfl, rfl⟩) hv
  · exact go true (.inr ⟨rfl, rfl⟩) hv
  · exact go true (.inr ⟨rfl, rfl⟩) hv
  · obtain ⟨v', h1, h2⟩ := Option.map_eq_some_iff.1 hv
    subst h2
    exact ⟨v', flat_ok h h1, Rd.nrm v'⟩
end
end Go.Proofs.YtdmedeaknnldcaaGreatDoor
