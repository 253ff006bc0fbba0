/- Functions without memory. -/
import Derived.Test.YtdmedeaknnldcaaGreatDoorSymO
namespace Go.Proofs.YtdmedeaknnldcaaGreatDoor
open Go.RowKit
set_option linter.unusedVariables false
set_option linter.unusedSimpArgs false
set_option linter.unnecessarySimpa false
/-- Of the tokens only those that are handed over. -/
def useG (use : List Nat) (t : Nat) : Option Nat := if use.contains t then some t else none
def inB (n b : Nat) : Option Nat := if b < n then some b else none
def stripV (n : Nat) (use : List Nat) : AV → AV := mp2 (inB n) (useG use)
def boxesI (n : Nat) (use sl : List Nat) : Nat → List (List AV) → List (Nat × Option (List AV))
  | _, [] => []
  | k, cs :: r => (k, some (match sl.contains k with | true => cs | false => cs.map (mp0 (inB n) (useG use)))) :: boxesI n use sl (k + 1) r
def ainit (nt : Nat) (use sl : List Nat) (args : List AV) (bs : List (List AV)) : AS where
  env := args.map (stripV bs.length use) ++ List.replicate (nt - args.length) .any
  box := boxesI bs.length use sl 0 bs
  tok := use.map (fun t => (t, true)) ++ ((List.range bs.length).map (fun k => (vk k, false)) ++ sl.map fun k => (vm k, false))
  nin := bs.length
def aresult (T : Tab) (s : AS) : ResultVar → Option AV
  | .tmp t => some (s.at t)
  | .cell a t => match s.at a with
    | .ptr b off => (match s.bx b with | some cs => ld T t cs off | none => none)
    | _ => none
def aresults (T : Tab) (s : AS) : List ResultVar → Option (List AV)
  | [] => some []
  | r :: l => match aresult T s r, aresults T s l with
    | some v, some vs => some (v :: vs)
    | _, _ => none
/-- The token of a result; of a new variable's cell. -/
def tZ (i : Nat) : Nat := 64 * 40000000 + i
def tN (j : Nat) : Nat := 64 * (50000000 + j)
/-- A nil slice is read as a list, where the shape says so. -/
def coeC : Option Nat → AV → AV
  | some n, .v (.slice none 0 0) => .list n [] none
  | _, x => x
def zipC : List (Option Nat) → List AV → List AV
  | k :: ks, c :: cs => coeC k c :: zipC ks cs
  | _, cs => cs
def coeR (ks : List (Option Nat)) : AV → AV
  | .agg cs => .agg (zipC ks cs)
  | v => coeC (ks.headD none) v
def zipR : List (List (Option Nat)) → List AV → List AV
  | k :: ks, c :: cs => coeR k c :: zipR ks cs
  | _, cs => cs
/-- A value under the caller's names. A slice, as the shape says: with its token (2000000 + n), as one over the new variable (1000000 + n), as a list. -/
def tagV (s : AS) (f : Nat → Option Nat) (id : Nat) : Option Nat → AV → AV
  | some n, v =>
    (match v with
    | .v (.slice none 0 0) => if 2000000 ≤ n then .list (n - 2000000) [] (some id) else if 1000000 ≤ n then .vs s.nin 0 0 (n - 1000000) else .list n [] none
    | .list m xs (some t) => if 2000000 ≤ n then (match s.tk t with | some true => .list m xs (some id) | _ => .list m xs none) else .list m xs none
    | v => mp2 f no1 v)
  | none, v => mp2 f no1 v
def tagT (s : AS) (id : Nat) : Option Nat → AV → List (Nat × Option Nat)
  | some n, v =>
    (match v with
    | .v (.slice none 0 0) => if 2000000 ≤ n then [(id, none)] else []
    | .list m xs (some t) => if 2000000 ≤ n then (match s.tk t with | some true => [(id, some t)] | _ => []) else []
    | v => [])
  | none, v => []
def tagC (s : AS) (f : Nat → Option Nat) (id : Nat → Nat) : Nat → List (Option Nat) → List AV → List AV
  | _, _, [] => []
  | j, row, v :: r => tagV s f (id j) (row.headD none) v :: tagC s f id (j + 1) row.tail r
def tagCT (s : AS) (id : Nat → Nat) : Nat → List (Option Nat) → List AV → List (Nat × Option Nat)
  | _, _, [] => []
  | j, row, v :: r => tagT s (id j) (row.headD none) v ++ tagCT s id (j + 1) row.tail r
def valV (s : AS) (f : Nat → Option Nat) (i : Nat) (row : List (Option Nat)) : AV → AV
  | .agg cs => .agg (zipC row (cs.map (mp0 f no1)))
  | v => tagV s f (tZ i) (row.headD none) v
def valT (s : AS) (i : Nat) (row : List (Option Nat)) : AV → List (Nat × Option Nat)
  | .agg _ => []
  | v => tagT s (tZ i) (row.headD none) v
def valVs (s : AS) (f : Nat → Option Nat) : Nat → List (List (Option Nat)) → List AV → List AV
  | _, _, [] => []
  | i, sh, v :: r => valV s f i (sh.headD []) v :: valVs s f (i + 1) sh.tail r
def valTs (s : AS) : Nat → List (List (Option Nat)) → List AV → List (Nat × Option Nat)
  | _, _, [] => []
  | i, sh, v :: r => valT s i (sh.headD []) v ++ valTs s (i + 1) sh.tail r
def outF (s : AS) (nw : Option Nat) (b : Nat) : Option Nat :=
  if b < s.nin then (match s.bx b with | some _ => some b | none => none) else (match nw with | some x => if b = x then some s.nin else none | none => none)
/-- The results under the caller's names. -/
def finV (s : AS) (f : Nat → Option Nat) (sh : List (List (Option Nat))) : List AV → AV
  | [v] => valV s f 0 (sh.headD []) v
  | vs => .tup (valVs s f 0 sh vs)
def aouts (s : AS) (sl : List Nat) (f : Nat → Option Nat) : Nat → List (List (Option Nat)) → Nat → Option (List (List AV))
  | _, _, 0 => some []
  | k, osh, n + 1 => match s.bx k, aouts s sl f (k + 1) osh.tail n with
    | some cs, some r => some ((match sl.contains k with | true => cs.map dat0 | false => tagC s f (fun j => tC k j 0) 0 (osh.headD []) cs) :: r)
    | _, _ => none
def aoutsT (s : AS) (sl : List Nat) : Nat → List (List (Option Nat)) → Nat → List (Nat × Option Nat)
  | _, _, 0 => []
  | k, osh, n + 1 => (match sl.contains k with | true => [] | false => (match s.bx k with | some cs => tagCT s (fun j => tC k j 0) 0 (osh.headD []) cs | none => [])) ++ aoutsT s sl (k + 1) osh.tail n
/-- The new variable that a result points to. -/
def anew (s : AS) (f : Nat → Option Nat) (nw : Option Nat) (nsh : List (Option Nat)) (v : AV) : Option (Option (List AV)) :=
  match nw with
  | some b => (match s.bx b with
    | some cs => some (some (match s.tk (vm b) with | some _ => cs.map dat0 | none => tagC s f tN 0 nsh cs))
    | none => none)
  | none => some (bif hasVs v then some [] else none)
def anewT (s : AS) (nw : Option Nat) (nsh : List (Option Nat)) : List (Nat × Option Nat) :=
  match nw with
  | some b => (match s.bx b with
    | some cs => (match s.tk (vm b) with | some _ => [] | none => tagCT s tN 0 nsh cs)
    | none => [])
  | none => []
/-- What a function hands back, and how it is read: its results, its variables' cells, its new variable's cells. -/
structure Shape where
  sh : List (List (Option Nat))
  osh : List (List (Option Nat))
  nsh : List (Option Nat)
  use : List Nat
  sl : List Nat
def newOf (s : AS) (vs : List AV) : Option Nat := ((vs.flatMap ptr0).filter (fun b => decide (s.nin ≤ b))).head?
def afinT (S : Shape) (s : AS) (vs : List AV) (nw : Option Nat) : List (Nat × Option Nat) := aoutsT s S.sl 0 S.osh s.nin ++ (anewT s nw S.nsh ++ valTs s 0 S.sh vs)
def afin2 (S : Shape) (s : AS) (vs : List AV) (nw : Option Nat) : Option Ret :=
  match aouts s S.sl (outF s nw) 0 S.osh s.nin, anew s (outF s nw) nw S.nsh (finV s (outF s nw) S.sh vs) with
  | some os, some new =>
    if (distinct ((afinT S s vs nw).map (·.1)) && (distinct ((afinT S s vs nw).filterMap (·.2)) && (afinT S s vs nw).all (fun p => (List.range (s.nin + 1)).all fun k => decide (p.1 ≠ vk k)))) = true then
      some ⟨finV s (outF s nw) S.sh vs, os, new, S.use, (afinT S s vs nw).map (·.1), S.sl⟩
    else none
  | _, _ => none
def afin (T : Tab) (fn : Func) (S : Shape) (s : AS) : Option Ret :=
  match aresults T s fn.results.toList with
  | some vs => afin2 S s vs (newOf s vs)
  | none => none
noncomputable def acall (T : Tab) (Γ : GamK) (An : Nat → Keep × Keep) (Λ : LoopK) (fn : Func) (S : Shape) (args : List AV) (bs : List (List AV)) : Option Ret :=
  match fn.body with
  | some c =>
    if args.length ≤ fn.ntmps ∧ S.sl.all (fun k => decide (k < bs.length)) = true ∧ (S.use.all fun t => (List.range bs.length).all fun k => decide (t ≠ vk k)) = true then
      aexec T Γ An Λ c 0 (ainit fn.ntmps S.use S.sl args bs) fun e s => match e with
        | .normal => afin T fn S s
        | .ret => afin T fn S s
        | _ => none
    else none
  | none => none
section
variable {P : Program} {T : Tab} {Γ : GamK} {B : Base} {M : Mem} {ρ ρ' : Rho} {σ σ' : Sig} {s s' : AS} {a : Act} {w : World} {Q : Exit → Act → World → Prop}
def rv (tmps : Array Value) : ResultVar → Sem Value
  | .tmp t => pure (tmps.getD t undef)
  | .cell a t => do loadVar t (← asAddr (tmps.getD a undef))
theorem results_rv (fn : Func) (tmps : Array Value) : results fn tmps = (do let vs ← fn.results.mapM (rv tmps); pure (if h : vs.size = 1 then vs[0] else .tuple vs)) := rfl
theorem aresults_ok (hT : TabOk P T) (h : SimW B M ρ σ s a w) : ∀ (l : List ResultVar) (vs : List AV), aresults T s l = some vs → ∃ cs : List Value, (l.mapM (rv a.tmps)).run P w = .ok cs w ∧ cs.length = vs.length ∧ ∀ i (h : i < cs.length) (h' : i < vs.length), Rd M ρ σ cs[i] vs[i]
  | [], vs, hv => by cases hv; exact ⟨[], rfl, rfl, fun i h => by cases h⟩
  | r :: l, vs, hv => by
    unfold aresults at hv
    split at hv
    · rename_i v vs' h1 h2
      cases hv
      obtain ⟨cs, q1, q2, q3⟩ := aresults_ok hT h l vs' h2
      have one : ∃ c, (rv a.tmps r).run P w = .ok c w ∧ Rd M ρ σ c v := by
        cases r with
        | tmp t => cases h1; exact ⟨_, rfl, h.env t⟩
        | cell b t =>
          simp only [aresult] at h1
          have hb := h.env b
          split at h1
          · rename_i bb off hat
            rw [hat] at hb
            split at h1
            · rename_i cs0 hcs
              generalize hq : a.tmps.getD b undef = xv at hb
              cases hb with
              | ptr hg =>
                obtain ⟨c, e1, e2⟩ := ld_ok hT (h.lies hcs hg) h1
                rw [Nat.zero_add] at e1
                refine ⟨c, ?_, e2⟩
                simp only [rv, hq, asAddr, Sem.run_bind, Sem.run_pure, Result.andThen_ok, e1]
            · cases h1
          · cases h1
      obtain ⟨c, o1, o2⟩ := one
      refine ⟨c :: cs, ?_, by simp [q2], fun i hi hi' => ?_⟩
      · rw [List.mapM_cons]
        simp only [Sem.run_bind, o1, Result.andThen_ok, q1, Sem.run_pure]
      · cases i with
        | zero => exact o2
        | succ i => exact q3 i (by simpa using hi) (by simpa using hi')
    · cases hv
theorem Rd.coeC {k : Option Nat} {c : Value} {v : AV} (h : Rd M ρ σ c v) : Rd M ρ σ c (coeC k v) := by
  unfold Go.Proofs.YtdmedeaknnldcaaGreatDoor.coeC
  split
  · rw [h.v_inv]; exact .nil
  · exact h
theorem zipC_get : ∀ (ks : List (Option Nat)) (cs : List AV), (zipC ks cs).length = cs.length ∧ ∀ i (h : i < (zipC ks cs).length) (h' : i < cs.length), (zipC ks cs)[i] = cs[i] ∨ ∃ k, (zipC ks cs)[i] = coeC k cs[i]
  | [], cs => ⟨by cases cs <;> rfl, fun i h h' => .inl (by cases cs <;> rfl)⟩
  | k :: ks, [] => ⟨rfl, fun i h => by cases h⟩
  | k :: ks, c :: cs => by
    obtain ⟨h1, h2⟩ := zipC_get ks cs
    refine ⟨by simp [zipC, h1], fun i h h' => ?_⟩
    cases i with
    | zero => exact .inr ⟨k, rfl⟩
    | succ i => exact h2 i (by simpa [zipC] using h) (by simpa using h')
theorem Rd.coeR {ks : List (Option Nat)} {c : Value} {v : AV} (h : Rd M ρ σ c v) : Rd M ρ σ c (coeR ks v) := by
  cases h with
  | agg hl h1 hr =>
    rename_i ccs cs
    obtain ⟨z1, z2⟩ := zipC_get ks cs
    refine .agg (by rw [z1]; exact hl) h1 fun i x y => ?_
    have y' : i < cs.length := by omega
    rcases z2 i y y' with e | ⟨k, e⟩
    · rw [e]; exact hr i x y'
    · rw [e]; exact (hr i x y').coeC
  | any => exact Rd.coeC (k := ks.headD none) .any
  | ub => exact Rd.coeC (k := ks.headD none) .ub
  | v => exact Rd.coeC (k := ks.headD none) .v
  | nil => exact Rd.coeC (k := ks.headD none) .nil
  | list cf h1 h2 h3 h4 h5 h6 h7 => exact Rd.coeC (k := ks.headD none) (.list cf h1 h2 h3 h4 h5 h6 h7)
  | tup h1 h2 => exact Rd.coeC (k := ks.headD none) (.tup h1 h2)
  | ptr hb => exact Rd.coeC (k := ks.headD none) (.ptr hb)
  | ref cf h1 h2 h3 => exact Rd.coeC (k := ks.headD none) (.ref cf h1 h2 h3)
  | fn h1 h2 h3 h4 => exact Rd.coeC (k := ks.headD none) (.fn h1 h2 h3 h4)
  | vs h hl hc => exact Rd.coeC (k := ks.headD none) (.vs h hl hc)
  | vsn => exact Rd.coeC (k := ks.headD none) .vsn
  | vse => exact Rd.coeC (k := ks.headD none) .vse
theorem zipR_get : ∀ (ks : List (List (Option Nat))) (cs : List AV), (zipR ks cs).length = cs.length ∧ ∀ i (h : i < (zipR ks cs).length) (h' : i < cs.length), (zipR ks cs)[i] = cs[i] ∨ ∃ k, (zipR ks cs)[i] = coeR k cs[i]
  | [], cs => ⟨by cases cs <;> rfl, fun i h h' => .inl (by cases cs <;> rfl)⟩
  | k :: ks, [] => ⟨rfl, fun i h => by cases h⟩
  | k :: ks, c :: cs => by
    obtain ⟨h1, h2⟩ := zipR_get ks cs
    refine ⟨by simp [zipR, h1], fun i h h' => ?_⟩
    cases i with
    | zero => exact .inr ⟨k, rfl⟩
    | succ i => exact h2 i (by simpa [zipR] using h) (by simpa using h')
theorem Rd.tagV {f : Nat → Option Nat} {id : Nat} {c : Option Nat} (R : Ren f no1 ρ σ ρ' σ') {x : Value} {v : AV} (h : Rd M ρ σ x v) (ht : ∀ t, (id, some t) ∈ tagT s id c v → ∀ sp, σ t = some sp → σ' id = some sp) : Rd M ρ' σ' x (tagV s f id c v) := by
  unfold Go.Proofs.YtdmedeaknnldcaaGreatDoor.tagV
  split
  · rename_i n
    split
    · rw [h.v_inv]
      split
      · exact .nil
      · split
        · exact .vsn
        · exact .nil
    · rename_i m xs t
      have none' : Rd M ρ' σ' x (.list m xs none) := by
        have := h.mp0 (f := no1) (g := no1) (Ren.no ρ σ ρ' σ')
        exact this
      split
      · rename_i hn
        split
        · rename_i hk
          cases h with
          | nil => exact .nil
          | list cf h1 h2 h3 h4 h5 h6 h7 =>
            refine .list cf h1 h2 h3 h4 h5 h6 (fun k e => ?_)
            cases e
            exact (h7 t rfl).imp (fun x => x) fun ⟨sp, q1, q2⟩ => ⟨sp, ht t (by simp [tagT, hn, hk]) sp q1, q2⟩
        · exact none'
      · exact none'
    · exact h.mp2 R
  · exact h.mp2 R
theorem tagC_get (f : Nat → Option Nat) (id : Nat → Nat) : ∀ (cs : List AV) (j0 : Nat) (row : List (Option Nat)), (tagC s f id j0 row cs).length = cs.length ∧ ∀ j (h : j < (tagC s f id j0 row cs).length) (h' : j < cs.length), ∃ c, (tagC s f id j0 row cs)[j] = tagV s f (id (j0 + j)) c cs[j] ∧ ∀ p ∈ tagT s (id (j0 + j)) c cs[j], p ∈ tagCT s id j0 row cs
  | [], j0, row => ⟨rfl, fun j h => by cases h⟩
  | v :: r, j0, row => by
    obtain ⟨h1, h2⟩ := tagC_get f id r (j0 + 1) row.tail
    refine ⟨by simp [tagC, h1], fun j h h' => ?_⟩
    cases j with
    | zero => exact ⟨row.headD none, rfl, fun p hp => List.mem_append_left _ hp⟩
    | succ j =>
      obtain ⟨c, q1, q2⟩ := h2 j (by simpa [tagC] using h) (by simpa using h')
      rw [show j0 + 1 + j = j0 + (j + 1) by omega] at q1 q2
      exact ⟨c, by simpa only [tagC, List.getElem_cons_succ] using q1, fun p hp => List.mem_append_right _ (q2 p (by simpa using hp))⟩
theorem Hold.tagC {f : Nat → Option Nat} (R : Ren f no1 ρ σ ρ' σ') {g : Nat} {cs : List AV} (h : Hold M ρ σ w g cs) (id : Nat → Nat) (row : List (Option Nat)) (ht : ∀ i t, (i, some t) ∈ tagCT s id 0 row cs → ∀ sp, σ t = some sp → σ' i = some sp) : Hold M ρ' σ' w g (tagC s f id 0 row cs) := by
  obtain ⟨ccs, t, h1, h2, h3, h4⟩ := h
  obtain ⟨z1, z2⟩ := tagC_get (s := s) f id cs 0 row
  refine ⟨ccs, t, h1, by rw [z1]; exact h2, fun i x y => h3 i x (by omega), fun i x y => ?_⟩
  have y' : i < cs.length := by omega
  obtain ⟨c, e1, e2⟩ := z2 i y y'
  rw [e1]
  exact (h4 i x y').tagV R fun t hm sp hsp => ht _ t (e2 _ hm) sp hsp
theorem Rd.valV {f : Nat → Option Nat} {i : Nat} {row : List (Option Nat)} (R : Ren f no1 ρ σ ρ' σ') {x : Value} {v : AV} (h : Rd M ρ σ x v) (ht : ∀ i' t, (i', some t) ∈ valT s i row v → ∀ sp, σ t = some sp → σ' i' = some sp) : Rd M ρ' σ' x (valV s f i row v) := by
  unfold Go.Proofs.YtdmedeaknnldcaaGreatDoor.valV
  split
  · rename_i cs
    have := (h.mp1 R).coeR (ks := row)
    exact this
  · rename_i hne
    refine h.tagV R fun t hm sp hsp => ht _ t ?_ sp hsp
    unfold valT
    split
    · exact absurd rfl (hne _)
    · exact hm
theorem valVs_len (f : Nat → Option Nat) : ∀ (cs : List AV) (i : Nat) (sh : List (List (Option Nat))), (valVs s f i sh cs).length = cs.length
  | [], i, sh => rfl
  | c :: cs, i, sh => by simp [valVs, valVs_len f cs]
theorem Rd.valVs {f : Nat → Option Nat} (R : Ren f no1 ρ σ ρ' σ') : ∀ (cs : List AV) (i : Nat) (sh : List (List (Option Nat))) (us : List Value), us.length = cs.length → (∀ j (h : j < us.length) (h' : j < cs.length), Rd M ρ σ us[j] cs[j]) → (∀ i' t, (i', some t) ∈ valTs s i sh cs → ∀ sp, σ t = some sp → σ' i' = some sp) → ∀ j (h : j < us.length) (h' : j < (valVs s f i sh cs).length), Rd M ρ' σ' us[j] (valVs s f i sh cs)[j]
  | [], i, sh, us, hl, hr, ht, j, h, h' => by cases h'
  | c :: cs, i, sh, [], hl, hr, ht, j, h, h' => by cases h
  | c :: cs, i, sh, u0 :: us, hl, hr, ht, j, h, h' => by
    cases j with
    | zero => exact (hr 0 (by simp) (by simp)).valV R fun i' t hm => ht i' t (List.mem_append_left _ hm)
    | succ j =>
      have := Rd.valVs R cs (i + 1) sh.tail us (by simpa using hl) (fun j h h' => by
        have := hr (j + 1) (by simpa using h) (by simpa using h')
        simp only [List.getElem_cons_succ] at this
        exact this) (fun i' t hm => ht i' t (List.mem_append_right _ hm)) j (by simpa using h) (by simpa [Go.Proofs.YtdmedeaknnldcaaGreatDoor.valVs] using h')
      simpa only [Go.Proofs.YtdmedeaknnldcaaGreatDoor.valVs, List.getElem_cons_succ] using this
theorem aouts_spec (s : AS) (sl : List Nat) (f : Nat → Option Nat) : ∀ (n k : Nat) (osh : List (List (Option Nat))) (os : List (List AV)), aouts s sl f k osh n = some os → os.length = n ∧ ∀ i (h : i < os.length), ∃ cs row, s.bx (k + i) = some cs ∧ os[i] = (match sl.contains (k + i) with | true => cs.map dat0 | false => tagC s f (fun j => tC (k + i) j 0) 0 row cs) ∧ (sl.contains (k + i) = false → ∀ p ∈ tagCT s (fun j => tC (k + i) j 0) 0 row cs, p ∈ aoutsT s sl k osh n)
  | 0, k, osh, os, h => by cases h; exact ⟨rfl, fun i h => by cases h⟩
  | n + 1, k, osh, os, h => by
    unfold aouts at h
    split at h
    · rename_i cs r h1 h2
      cases h
      obtain ⟨q1, q2⟩ := aouts_spec s sl f n (k + 1) osh.tail r h2
      refine ⟨by simp [q1], fun i hi => ?_⟩
      cases i with
      | zero =>
        refine ⟨cs, osh.headD [], h1, rfl, fun hc p hp => List.mem_append_left _ ?_⟩
        rw [Nat.add_zero] at hc hp
        rw [hc, h1]
        exact hp
      | succ i =>
        obtain ⟨cs', row, e1, e2, e3⟩ := q2 i (by simpa using hi)
        have e : k + 1 + i = k + (i + 1) := by omega
        rw [e] at e1 e2 e3
        exact ⟨cs', row, e1, e2, fun hc p hp => List.mem_append_right _ (e3 hc p hp)⟩
    · cases h
theorem boxesI_look (n : Nat) (use sl : List Nat) : ∀ (bs : List (List AV)) (k0 b : Nat) (x : Option (List AV)), (boxesI n use sl k0 bs).lookup b = some x → ∃ k, ∃ (h : k < bs.length), b = k0 + k ∧ x = some (match sl.contains b with | true => bs[k] | false => bs[k].map (mp0 (inB n) (useG use)))
  | [], k0, b, x, h => by cases h
  | cs :: r, k0, b, x, h => by
    unfold boxesI at h
    rw [List.lookup_cons] at h
    by_cases e : b = k0
    · subst e
      simp only [beq_self_eq_true] at h
      cases h
      exact ⟨0, by simp, rfl, rfl⟩
    · have e2 : (b == k0) = false := by simp [e]
      rw [e2] at h
      obtain ⟨k, h1, h2, h3⟩ := boxesI_look n use sl r (k0 + 1) b x h
      exact ⟨k + 1, by simpa using h1, by omega, by simpa using h3⟩
theorem boxesI_has (n : Nat) (use sl : List Nat) : ∀ (bs : List (List AV)) (k0 k : Nat), k < bs.length → ∃ x, (boxesI n use sl k0 bs).lookup (k0 + k) = some x ∧ x ≠ none
  | [], k0, k, h => by cases h
  | cs :: r, k0, k, h => by
    unfold boxesI
    rw [List.lookup_cons]
    cases k with
    | zero => simp
    | succ k =>
      have e2 : (k0 + (k + 1) == k0) = false := by simp
      rw [e2]
      have := boxesI_has n use sl r (k0 + 1) k (by simpa using h)
      rw [show k0 + 1 + k = k0 + (k + 1) by omega] at this
      exact this
theorem init_ok {nt : Nat} {args : List AV} {bs : List (List AV)} {use sl : List Nat} (ha : args.length ≤ nt) {cargs : Array Value} {gs : List (Option Nat)} (hgl : GlOk M w gs (InT σ use)) (mem : ∀ g o v, M g o = some v → w.cell? ⟨g, o, none⟩ = some v) (hlt : ∀ (k g : Nat), gs[k]? = some (some g) → g < w.heap.size) (hn : Inj gs) (hl : gs.length = bs.length) (hsz : cargs.size = args.length) (hr : ∀ i (h : i < cargs.size) (h' : i < args.length), Rd M (gsR gs) σ cargs[i] args[i])
    (hbx : ∀ k (h : k < gs.length) (h' : k < bs.length), HasBox M (gsR gs) σ w gs[k] bs[k]) (hsl : ∀ k ∈ sl, ∀ (h : k < gs.length) (h' : k < bs.length), HasBox M rho0 sig0 w gs[k] bs[k]) (T : Toks M w σ use gs) (huv : ∀ t ∈ use, ∀ k, k < bs.length → t ≠ vk k) : ∃ σ1 : Sig, (∀ k, k < bs.length → σ1 (vk k) = σ (vk k)) ∧ SimW ⟨w, M, gs, InT σ use, fun k => σ (vk k)⟩ M (gsR gs) σ1 (ainit nt use sl args bs) { tmps := cargs ++ Array.replicate (nt - cargs.size) undef, defers := [] } w := by
  let σ1 : Sig := fun t => open Classical in if t ∈ use ∨ ∃ k, k < bs.length ∧ t = vk k then σ t else none
  have s1u : ∀ t, (t ∈ use ∨ ∃ k, k < bs.length ∧ t = vk k) → σ1 t = σ t := fun t ht => by
    show (if _ then _ else _) = _
    rw [if_pos ht]
  have s1n : ∀ t sp, σ1 t = some sp → (t ∈ use ∨ ∃ k, k < bs.length ∧ t = vk k) ∧ σ t = some sp := fun t sp ht => by
    have ht' : (if t ∈ use ∨ ∃ k, k < bs.length ∧ t = vk k then σ t else none) = some sp := ht
    split at ht'
    · rename_i h; exact ⟨h, ht'⟩
    · cases ht'
  have R : Ren (inB bs.length) (useG use) (gsR gs) σ (gsR gs) σ1 := by
    refine ⟨fun b b' x hb hx => ?_, fun t t' sp ht hsp => ?_, fun b b' sp hb hsp => ?_⟩
    · unfold inB at hb
      split at hb
      · cases hb; exact hx
      · cases hb
    · unfold useG at ht
      split at ht
      · rename_i hc
        cases ht
        rw [s1u t (.inl (List.contains_iff_mem.1 hc))]; exact hsp
      · cases ht
    · unfold inB at hb
      split at hb
      · rename_i hlt
        cases hb
        rw [s1u _ (.inr ⟨b, hlt, rfl⟩)]; exact hsp
      · cases hb
  have tkq : ∀ t, (ainit nt use sl args bs).tk t = (use.map (fun t => (t, true)) ++ ((List.range bs.length).map (fun k => (vk k, false)) ++ sl.map fun k => (vm k, false))).lookup t := fun t => rfl
  have tk1 : ∀ t, (ainit nt use sl args bs).tk t = some true → t ∈ use := fun t ht => by
    rw [tkq] at ht
    rcases List.mem_append.1 (lookup_mem _ _ _ ht) with hm | hm
    · obtain ⟨x, m1, m2⟩ := List.mem_map.1 hm; cases m2; exact m1
    · rcases List.mem_append.1 hm with hm | hm
      · obtain ⟨x, m1, m2⟩ := List.mem_map.1 hm; cases m2
      · obtain ⟨x, m1, m2⟩ := List.mem_map.1 hm; cases m2
  have tk2 : ∀ t, (t ∈ use ∨ ∃ k, k < bs.length ∧ t = vk k) → (ainit nt use sl args bs).tk t ≠ none := fun t ht => by
    rw [tkq, ← Option.isSome_iff_ne_none, lookup_contains, List.contains_iff_mem]
    rcases ht with ht | ⟨k, hk, rfl⟩
    · exact List.mem_map.2 ⟨(t, true), List.mem_append_left _ (List.mem_map.2 ⟨t, ht, rfl⟩), rfl⟩
    · exact List.mem_map.2 ⟨(vk k, false), List.mem_append_right _ (List.mem_append_left _ (List.mem_map.2 ⟨k, by simpa using hk, rfl⟩)), rfl⟩
  have bxq : ∀ b, (ainit nt use sl args bs).bx b = (match (boxesI bs.length use sl 0 bs).lookup b with | some x => x | none => none) := fun b => rfl
  have hbx' : ∀ b cs, (ainit nt use sl args bs).bx b = some cs → ∃ h : b < bs.length, cs = (match sl.contains b with | true => bs[b] | false => bs[b].map (mp0 (inB bs.length) (useG use))) := fun b cs hq => by
    rw [bxq] at hq
    split at hq
    · rename_i x hx
      obtain ⟨k, h1, h2, h3⟩ := boxesI_look _ _ _ _ _ _ _ hx
      rw [Nat.zero_add] at h2
      subst h2
      rw [h3] at hq
      exact ⟨h1, (Option.some.inj hq).symm⟩
    · cases hq
  have gk : ∀ b g, gsR gs b = some g → gs[b]? = some (some g) := fun b g h => by
    unfold gsR at h
    cases hq : gs[b]? with
    | none => rw [hq] at h; cases h
    | some x => rw [hq] at h; rw [show x = some g from h]
  refine ⟨σ1, fun k hk => s1u _ (.inr ⟨k, hk, rfl⟩), ?_⟩
  refine { nin := hl.symm, own := fun k hk hb => rfl, fresh := fun b g hb' hr' => ?_, len := ?_, env := fun t => ?_, defers := rfl, mem := mem, memB := fun _ _ _ _ => rfl, memS := fun _ _ _ h => h, gl := hgl, os := rfl, tape := rfl, output := rfl, size := Nat.le_refl _, block := fun _ _ _ _ => rfl, box := fun b cs hq => ?_, rws := fun _ _ h => h, rlt := fun b g hr' => hlt b g (gk b g hr'), rho := fun b g hg => ?_, inj := fun b b' g _ _ h1 h2 => hn b b' g (gk b g h1) (gk b' g h2), tok := fun t sp ht hs => ?_, cap := fun t sp hs => T.cap t sp (s1n t sp hs).2, sig := fun t sp hs => tk2 t (s1n t sp hs).1, capB := fun k hk sp hs => (s1n _ sp hs).2, nink := fun k hk => tk2 _ (.inr ⟨k, hk, rfl⟩), tinj := fun t t' sp sp' ht ht' hs hs' hg => T.inj t (tk1 t ht) t' (tk1 t' ht') sp sp' (s1n t sp hs).2 (s1n t' sp' hs').2 hg }
  · simp [ainit]; omega
  · have e : (ainit nt use sl args bs).at t = if h : t < args.length then stripV bs.length use args[t] else .any := by
      unfold AS.at ainit
      simp only
      by_cases hlt : t < args.length
      · rw [dif_pos hlt, List.getElem?_append_left (by simpa using hlt), List.getElem?_map, List.getElem?_eq_getElem hlt]; rfl
      · rw [dif_neg hlt, List.getElem?_append_right (by simp; omega), List.getElem?_replicate]
        split <;> rfl
    rw [e]
    split
    · rename_i hlt
      have h1 : t < cargs.size := by omega
      have : (cargs ++ Array.replicate (nt - cargs.size) undef).getD t undef = cargs[t] := by
        rw [Array.getD_eq_getD_getElem?, Array.getElem?_append_left h1, Array.getElem?_eq_getElem h1]; rfl
      rw [this]
      exact (hr t h1 hlt).mp2 R
    · exact .any
  · have h1 := gk b g hr'
    have h2 := (List.getElem?_eq_some_iff.1 h1).1
    have h3 : bs.length ≤ b := hb'
    omega
  · obtain ⟨hlt', rfl⟩ := hbx' b cs hq
    have hb2 : b < gs.length := by omega
    have eg : gsR gs b = gs[b] := by unfold gsR; rw [List.getElem?_eq_getElem hb2]; rfl
    cases hc : sl.contains b with
    | true =>
      rcases hsl b (List.contains_iff_mem.1 hc) hb2 hlt' with ⟨q1, q2⟩ | ⟨g, q1, ⟨ccs, t, z1, z2, z3, z4⟩, q3⟩
      · exact .inl ⟨q1, by rw [eg]; exact q2⟩
      · exact .inr ⟨g, by rw [eg]; exact q1, ⟨ccs, t, z1, z2, z3, fun i a b => (z4 i a b).of0⟩, q3, .inr (by rw [← q1]; exact List.getElem_mem _)⟩
    | false =>
      rcases hbx b hb2 hlt' with ⟨q1, q2⟩ | ⟨g, q1, ⟨ccs, t, z1, z2, z3, z4⟩, q3⟩
      · exact .inl ⟨by simp [q1], by rw [eg]; exact q2⟩
      · exact .inr ⟨g, by rw [eg]; exact q1, ⟨ccs, t, z1, by simpa using z2, fun i a b => z3 i a (by simpa using b), fun i a b => by simpa using (z4 i a (by simpa using b)).mp0 R⟩, q3, .inr (by rw [← q1]; exact List.getElem_mem _)⟩
  · refine .inl ?_
    have h1 := gk b g hg
    have h2 := (List.getElem?_eq_some_iff.1 h1).1
    obtain ⟨x, q1, q2⟩ := boxesI_has bs.length use sl bs 0 b (by omega)
    rw [Nat.zero_add] at q1
    rw [bxq, q1]
    exact q2
  · have hu := tk1 t ht
    obtain ⟨q1, q2, q3⟩ := T.tok t hu sp (s1n t sp hs).2
    exact ⟨.inr ⟨t, hu, sp, (s1n t sp hs).2, rfl⟩, q1, q2, fun b _ e => q3 (List.mem_of_getElem? (gk b _ e))⟩
def capN (σ : Sig) (nw : Option Nat) : Option Spare := match nw with
  | some b => σ (vk b)
  | none => none
def newG (ρ : Rho) (nw : Option Nat) (new : Option (List AV)) : List (Option Nat) := match nw with
  | some b => [ρ b]
  | none => (match new with | some _ => [none] | none => [])
theorem finV_tup (s : AS) (f : Nat → Option Nat) (sh : List (List (Option Nat))) (vs : List AV) (h : ∀ v, vs ≠ [v]) : finV s f sh vs = .tup (valVs s f 0 sh vs) := by
  cases vs with
  | nil => rfl
  | cons x r => cases r with
    | nil => exact absurd rfl (h x)
    | cons y r => rfl
theorem tagT_live {id : Nat} {c : Option Nat} {v : AV} {p : Nat × Option Nat} (h : p ∈ tagT s id c v) : ∀ t, p.2 = some t → s.tk t = some true := fun t ht => by
  unfold tagT at h
  split at h
  · split at h
    · split at h
      · simp at h; subst h; cases ht
      · cases h
    · split at h
      · split at h
        · rename_i hk; simp at h; subst h; cases ht; exact hk
        · cases h
      · cases h
    · cases h
  · cases h
theorem tagCT_live {id : Nat → Nat} : ∀ (cs : List AV) (j : Nat) (row : List (Option Nat)) (p : Nat × Option Nat), p ∈ tagCT s id j row cs → ∀ t, p.2 = some t → s.tk t = some true
  | [], _, _, p, h => by cases h
  | v :: r, j, row, p, h => by
    rcases List.mem_append.1 h with h | h
    · exact tagT_live h
    · exact tagCT_live r _ _ p h
theorem aoutsT_live (sl : List Nat) : ∀ (n k : Nat) (osh : List (List (Option Nat))) (p : Nat × Option Nat), p ∈ aoutsT s sl k osh n → ∀ t, p.2 = some t → s.tk t = some true
  | 0, _, _, p, h => by cases h
  | n + 1, k, osh, p, h => by
    rcases List.mem_append.1 h with h | h
    · split at h
      · cases h
      · split at h
        · exact tagCT_live _ _ _ p h
        · cases h
    · exact aoutsT_live sl n _ _ p h
theorem valTs_live : ∀ (cs : List AV) (i : Nat) (sh : List (List (Option Nat))) (p : Nat × Option Nat), p ∈ valTs s i sh cs → ∀ t, p.2 = some t → s.tk t = some true
  | [], _, _, p, h => by cases h
  | v :: r, i, sh, p, h => by
    rcases List.mem_append.1 h with h | h
    · unfold valT at h
      split at h
      · cases h
      · exact tagT_live h
    · exact valTs_live r _ _ p h
/-- A FUNCTION's ANSWER WITHOUT MEMORY IS ITS ANSWER. -/
theorem acall_ok (hT : TabOk P T) (hG : GOk P Γ.v) (hm : P.follows .mixedOrders = true) {f : FuncId} {fn : Func} (hf : P.funcs[f]? = some fn) (hname : (fn.name == "runtime.NumGoroutine") = false) (An : Nat → Keep × Keep) (Λ : LoopK) (hL : ∀ c, fn.body = some c → ∀ p ∈ loopsOf c 0, actB An p = true → ∀ s o, s = canon (An p.1).1 s → Λ.v p.1 s = some o → LoopSem P p.2 s o) {S : Shape} {args : List AV} {bs : List (List AV)} {r : Ret} (ru : r.use = S.use ∧ r.sl = S.sl)
    (h : acall T Γ An Λ fn S args bs = some r) : CallOk P f args bs r := by
  obtain ⟨sh, osh, nsh, use, sl⟩ := S
  unfold acall at h
  split at h
  · rename_i c hc
    split at h
    · rename_i hle
      obtain ⟨hle, hsk, huv⟩ := hle
      refine ⟨⟨fn, hf, hname, by rw [hc]; rfl⟩, fun M w cargs gs σ hgl mem hlt hn hl hsz hr hbx hsl0 hT0 => ?_⟩
      rw [ru.1] at hT0 hgl
      rw [ru.2] at hsl0
      obtain ⟨σ1, hσ1, hinit⟩ := init_ok (nt := fn.ntmps) (args := args) (bs := bs) (use := use) (sl := sl) hle hgl mem hlt hn hl hsz hr hbx hsl0 hT0 (fun t ht k hk => of_decide_eq_true (List.all_eq_true.1 (List.all_eq_true.1 huv t ht) k (by simpa using hk)))
      refine calls_of_wp hf hc (aexec_ok hT hG hm An Λ c 0 (hL c hc) Ret _ _ r _ _ w _ h ⟨M, _, _, hinit⟩ fun e s a w' hk hS => ?_)
      have fin : afin T fn ⟨sh, osh, nsh, use, sl⟩ s = some r → bodyPost P fn (fun e w' => ∃ c M' σ' gn, e = .returned c ∧ Left M w gs σ r c M' w' σ' gn) .ret a w' := fun hk => by
        obtain ⟨M', ρ, σ2, hs⟩ := hS
        unfold afin at hk
        split at hk
        · rename_i vs hv
          obtain ⟨nw, hnwd⟩ : ∃ nw, newOf s vs = nw := ⟨_, rfl⟩
          rw [hnwd] at hk
          have hnw : ∀ b, nw = some b → s.nin ≤ b := fun b hb => by
            rw [hb] at hnwd
            have := List.mem_of_mem_head? hnwd
            exact of_decide_eq_true (List.mem_filter.1 this).2
          unfold afin2 at hk
          obtain ⟨tab, htab⟩ : ∃ tab, afinT ⟨sh, osh, nsh, use, sl⟩ s vs nw = tab := ⟨_, rfl⟩
          rw [htab] at hk
          dsimp only at hk
          obtain ⟨f', hf'⟩ : ∃ f', outF s nw = f' := ⟨_, rfl⟩
          rw [hf'] at hk
          split at hk
          · rename_i os new ho hnew
            split at hk
            · rename_i hchk
              rw [Bool.and_eq_true, Bool.and_eq_true] at hchk
              obtain ⟨k1, k2, k3⟩ := hchk
              have tab_nd := distinct_nodup _ k1
              have tabL : ∀ i x, (i, x) ∈ tab → tab.lookup i = some x := nodup_lookup tab tab_nd
              have tabV : ∀ i x, (i, x) ∈ tab → ∀ k, k ≤ s.nin → i ≠ vk k := fun i x hm k hk => of_decide_eq_true (List.all_eq_true.1 (List.all_eq_true.1 k3 _ hm) k (by simpa using Nat.lt_succ_of_le hk))
              have tabLive : ∀ i t, (i, some t) ∈ tab → s.tk t = some true := fun i t hm => by
                rw [← htab] at hm
                unfold afinT at hm
                rcases List.mem_append.1 hm with hm | hm
                · exact aoutsT_live _ _ _ _ _ hm t rfl
                · rcases List.mem_append.1 hm with hm | hm
                  · unfold anewT at hm
                    split at hm
                    · split at hm
                      · split at hm
                        · cases hm
                        · exact tagCT_live _ _ _ _ hm t rfl
                      · cases hm
                    · cases hm
                  · exact valTs_live _ _ _ _ hm t rfl
              have hnin : s.nin = gs.length := hs.nin
              obtain ⟨gn, hgn⟩ : ∃ gn : List (Option Nat), gn = newG ρ nw new := ⟨_, rfl⟩
              let σ3 : Sig := fun t => match tab.lookup t with | some o => o.bind σ2 | none => if t = vk s.nin then capN σ2 nw else σ2 t
              have s3t : ∀ i x, (i, x) ∈ tab → σ3 i = x.bind σ2 := fun i x hm => by
                show (match tab.lookup i with | some o => o.bind σ2 | none => if i = vk s.nin then capN σ2 nw else σ2 i) = _
                rw [tabL i x hm]
              have tabN : ∀ k, k ≤ s.nin → tab.lookup (vk k) = none := fun k hk => by
                cases hq : tab.lookup (vk k) with
                | none => rfl
                | some x => exact absurd rfl (tabV _ _ (lookup_mem _ _ _ hq) k hk)
              have s3n : ∀ k, k < s.nin → σ3 (vk k) = σ2 (vk k) := fun k hk => by
                show (match tab.lookup (vk k) with | some o => o.bind σ2 | none => if vk k = vk s.nin then capN σ2 nw else σ2 (vk k)) = _
                rw [tabN k (by omega)]
                simp only
                rw [if_neg (by unfold vk; omega)]
              have s3e : ∀ b, nw = some b → σ3 (vk s.nin) = σ2 (vk b) := fun b hb => by
                show (match tab.lookup (vk s.nin) with | some o => o.bind σ2 | none => if vk s.nin = vk s.nin then capN σ2 nw else σ2 (vk s.nin)) = _
                rw [tabN s.nin (Nat.le_refl _)]
                simp only [if_true, hb]; rfl
              have s3c : ∀ t sp, σ3 t = some sp → ∃ t', σ2 t' = some sp := fun t sp ht => by
                have ht' : (match tab.lookup t with | some o => o.bind σ2 | none => if t = vk s.nin then capN σ2 nw else σ2 t) = some sp := ht
                split at ht'
                · obtain ⟨x, -, h2⟩ := Option.bind_eq_some_iff.1 ht'
                  exact ⟨x, h2⟩
                · split at ht'
                  · unfold capN at ht'
                    split at ht'
                    · exact ⟨_, ht'⟩
                    · cases ht'
                  · exact ⟨_, ht'⟩
              obtain ⟨o1, o2⟩ := aouts_spec s sl f' _ _ _ _ ho
              rw [hnin] at o1
              have hpres : ∀ k, k < gs.length → s.bx k ≠ none := fun k hk => by
                obtain ⟨cs, row, q1, -⟩ := o2 k (by omega)
                rw [Nat.zero_add] at q1
                rw [q1]; simp
              have hown : ∀ k (hk : k < gs.length), ρ k = gs[k] := fun k hk => by
                have := hs.own k (by omega) (hpres k hk)
                rw [this]
                show (gs[k]?).getD none = _
                rw [List.getElem?_eq_getElem hk]; rfl
              have gl : ∀ b, b < s.nin → gsR (gs ++ gn) b = ρ b := fun b hb => by
                have hb' : b < gs.length := by omega
                rw [hown b hb']
                unfold gsR
                rw [List.getElem?_append_left hb', List.getElem?_eq_getElem hb']; rfl
              have gN : ∀ b, nw = some b → gsR (gs ++ gn) s.nin = ρ b := fun b hb => by
                unfold gsR
                rw [hgn, hb, hnin, List.getElem?_append_right (Nat.le_refl _), Nat.sub_self]
                rfl
              have R : Ren f' no1 ρ σ2 (gsR (gs ++ gn)) σ3 := by
                have oF : ∀ b b', f' b = some b' → (b < s.nin ∧ b' = b) ∨ (nw = some b ∧ b' = s.nin) := fun b b' hb => by
                  rw [← hf'] at hb
                  unfold outF at hb
                  split at hb
                  · rename_i hlt
                    split at hb
                    · cases hb; exact .inl ⟨hlt, rfl⟩
                    · cases hb
                  · split at hb
                    · split at hb
                      · rename_i e; cases hb; exact .inr ⟨by rw [e], rfl⟩
                      · cases hb
                    · cases hb
                refine ⟨fun b b' x hb hx => ?_, fun t t' sp ht hsp => ?_, fun b b' sp hb hsp => ?_⟩
                · rcases oF b b' hb with ⟨q1, q2⟩ | ⟨q1, q2⟩
                  · rw [q2, gl b q1]; exact hx
                  · rw [q2, gN b q1]; exact hx
                · cases ht
                · rcases oF b b' hb with ⟨q1, q2⟩ | ⟨q1, q2⟩
                  · rw [q2, s3n b q1]; exact hsp
                  · rw [q2, s3e b q1]; exact hsp
              have sub : ∀ g o v, M g o = some v → M' g o = some v := hs.memS
              have frm : Frm w w' gs (InT σ use) := ⟨hs.os, hs.tape, hs.output, hs.size, hs.block⟩
              obtain ⟨cs, q1, q2, q3⟩ := aresults_ok hT hs _ _ hv
              have qr : (results fn a.tmps).run P w' = .ok (if h : cs.toArray.size = 1 then cs.toArray[0] else .tuple cs.toArray) w' := by
                rw [results_rv]
                simp only [Sem.run_bind]
                have : (fn.results.mapM (rv a.tmps)).run P w' = .ok cs.toArray w' := by
                  rw [Array.mapM_eq_mapM_toList]
                  show Sem.run P ((fn.results.toList.mapM _) >>= fun l => pure l.toArray) w' = _
                  rw [Sem.run_bind, q1]
                  rfl
                rw [this]
                rfl
              have tabS : ∀ i t, (i, some t) ∈ tab → ∀ sp, σ2 t = some sp → σ3 i = some sp := fun i t hm sp hsp => by
                rw [s3t i _ hm]; exact hsp
              have hval : Rd M' (gsR (gs ++ gn)) σ3 (if h : cs.toArray.size = 1 then cs.toArray[0] else .tuple cs.toArray) (finV s f' sh vs) := by
                have inT : ∀ p ∈ valTs s 0 sh vs, p ∈ tab := fun p hp => by
                  rw [← htab]; exact List.mem_append_right _ (List.mem_append_right _ hp)
                by_cases hone : ∃ v, vs = [v]
                · obtain ⟨v, hv1⟩ := hone
                  subst hv1
                  obtain ⟨c0, hc0⟩ : ∃ c0, cs = [c0] := List.length_eq_one_iff.1 (by rw [q2]; rfl)
                  subst hc0
                  show Rd M' (gsR (gs ++ gn)) σ3 c0 (valV s f' 0 (sh.headD []) v)
                  exact (q3 0 (by simp) (by simp)).valV R fun i' t hm => tabS i' t (inT _ (List.mem_append_left _ hm))
                · have hne : ∀ v, vs ≠ [v] := fun v e => hone ⟨v, e⟩
                  have h1 : ¬ cs.toArray.size = 1 := fun e => by
                    have e2 : vs.length = 1 := by rw [← q2]; simpa using e
                    obtain ⟨v, e3⟩ := List.length_eq_one_iff.1 e2
                    exact hne v e3
                  rw [dif_neg h1, finV_tup s f' sh vs hne]
                  have hz := Rd.valVs (s := s) R vs 0 sh cs q2 q3 fun i' t hm => tabS i' t (inT _ hm)
                  have hzl := valVs_len (s := s) f' vs 0 sh
                  exact .tup (by simp [hzl, q2]) (fun i h h' => by simpa using hz i (by simpa using h) h')
              cases hk
              have holdD : ∀ (b g : Nat) (cs : List AV), Hold M' ρ σ2 w' g cs → Hold M' rho0 sig0 w' g (cs.map dat0) := fun b g cs ⟨ccs, t, z1, z2, z3, z4⟩ => ⟨ccs, t, z1, by simpa using z2, fun i a b => z3 i a (by simpa using b), fun i a b => by simpa using (z4 i a (by simpa using b)).dat0⟩
              have up0 : ∀ g cs, Hold M' rho0 sig0 w' g cs → Hold M' (gsR (gs ++ gn)) σ3 w' g cs := fun g cs ⟨ccs, t, z1, z2, z3, z4⟩ => ⟨ccs, t, z1, z2, z3, fun i a b => (z4 i a b).of0⟩
              have tokIn : ∀ t sp, s.tk t = some true → σ2 t = some sp → (w.heap.size ≤ sp.g ∨ InT σ use sp.g) ∧ sp.lo ≤ sp.hi ∧ (∀ o, sp.lo ≤ o → o < sp.hi → M' sp.g o = none) ∧ some sp.g ∉ gs := fun t sp ht hsp => by
                obtain ⟨p1, p2, p3, p4⟩ := hs.tok t sp ht hsp
                refine ⟨p1, p2, p3, fun hm => ?_⟩
                obtain ⟨k, hk, e⟩ := List.getElem_of_mem hm
                exact p4 k (hpres k hk) (by rw [hown k hk, e])
              -- the new variable
              have hnewS : ∀ cs, new = some cs → ∃ go, gn = [go] ∧ HasBox M' (gsR (gs ++ gn)) σ3 w' go cs ∧ (∀ g, go = some g → w.heap.size ≤ g) ∧ ∀ t sp, s.tk t = some true → σ2 t = some sp → go ≠ some sp.g := fun cs hcs => by
                unfold anew at hnew
                split at hnew
                · rename_i b
                  split at hnew
                  · rename_i cs0 hb
                    rw [hcs] at hnew
                    have hnew' := Option.some.inj (Option.some.inj hnew)
                    have hgo : gn = [ρ b] := hgn
                    have hfr : ∀ g, ρ b = some g → w.heap.size ≤ g := fun g hg => hs.fresh b g (hnw b rfl) hg
                    have hnt : ∀ t sp, s.tk t = some true → σ2 t = some sp → ρ b ≠ some sp.g := fun t sp ht hsp => (hs.tok t sp ht hsp).2.2.2 b (bx_ne hb)
                    refine ⟨ρ b, hgo, ?_, hfr, hnt⟩
                    rw [← hnew']
                    rcases hs.box b cs0 hb with ⟨e1, e2⟩ | ⟨g, p1, p2, p3, -⟩
                    · refine .inl ⟨?_, e2⟩
                      subst e1
                      split <;> rfl
                    · refine .inr ⟨g, p1, ?_, p3⟩
                      split
                      · exact up0 _ _ (holdD b g cs0 p2)
                      · rename_i hvm
                        refine p2.tagC R _ _ fun i t hm => tabS i t ?_
                        rw [← htab]
                        refine List.mem_append_right _ (List.mem_append_left _ ?_)
                        unfold anewT
                        simp only [hb, hvm]
                        exact hm
                  · cases hnew
                · have hgo : gn = [none] := by rw [hgn, hcs]; rfl
                  have hnew' := Option.some.inj hnew
                  rw [hcs] at hnew'
                  refine ⟨none, hgo, .inl ⟨?_, rfl⟩, fun g e => (by cases e), fun t sp _ _ e => by cases e⟩
                  revert hnew'
                  cases hasVs (finV s f' sh vs)
                  · intro e; cases e
                  · intro e; cases e; rfl
              refine ⟨hs.defers, _, qr, _, M', σ3, gn, rfl, ?_⟩
              refine { sub := sub, mem := hs.mem, same := hs.memB, frm := by rw [ru.1]; exact frm, olen := o1, outs := fun k hk hk' => ?_, data := fun k hks hk hk' => ?_, newn := fun e => ?_, new := fun cs hcs => ?_, val := hval, tok := fun t ht sp hsp => ?_, cap := fun t sp hsp => ?_, inj := fun t ht t' ht' sp sp' h1 h2 hg => ?_, rows := hs.rws, capin := fun k hk sp hsp => ?_ }
              · obtain ⟨cs0, row, c1, c2, c3⟩ := o2 k hk'
                rw [Nat.zero_add] at c1 c2 c3
                dsimp only
                rw [c2]
                rcases hs.box k cs0 c1 with ⟨e1, e2⟩ | ⟨g, p1, p2, p3, -⟩
                · refine .inl ⟨?_, by rw [← hown k hk]; exact e2⟩
                  subst e1
                  split <;> rfl
                · refine .inr ⟨g, by rw [← hown k hk]; exact p1, ?_, p3⟩
                  cases hsc : sl.contains k with
                  | true => exact up0 _ _ (holdD k g cs0 p2)
                  | false =>
                    refine p2.tagC R _ _ fun i t hm => tabS i t ?_
                    rw [← htab]
                    refine List.mem_append_left _ ?_
                    exact c3 hsc _ hm
              · obtain ⟨cs0, row, c1, c2, c3⟩ := o2 k hk'
                rw [Nat.zero_add] at c1 c2 c3
                dsimp only
                have hks' : sl.contains k = true := List.contains_iff_mem.2 hks
                rw [c2, hks']
                rcases hs.box k cs0 c1 with ⟨e1, e2⟩ | ⟨g, p1, p2, p3, -⟩
                · exact .inl ⟨by rw [e1]; rfl, by rw [← hown k hk]; exact e2⟩
                · exact .inr ⟨g, by rw [← hown k hk]; exact p1, holdD k g cs0 p2, p3⟩
              · have e' : new = none := e
                rw [hgn, e']
                unfold anew at hnew
                cases nw with
                | none => rfl
                | some b =>
                  simp only at hnew
                  split at hnew
                  · rw [e'] at hnew; cases hnew
                  · cases hnew
              · obtain ⟨go, g1, g2, g3, -⟩ := hnewS cs hcs
                exact ⟨go, g1, g2, g3⟩
              · have ht' : t ∈ tab.map (·.1) := ht
                obtain ⟨⟨i, x⟩, m1, m2⟩ := List.mem_map.1 ht'
                have m2' : i = t := m2
                subst m2'
                rw [s3t i x m1] at hsp
                obtain ⟨t0, e1, h1⟩ := Option.bind_eq_some_iff.1 hsp
                subst e1
                have h2 := tabLive i t0 m1
                obtain ⟨p1, p2, p3, p4⟩ := tokIn t0 sp h2 h1
                refine ⟨by rw [ru.1]; exact p1, p2, p3, fun hm => ?_⟩
                rcases List.mem_append.1 hm with hm | hm
                · exact p4 hm
                · cases hnn : new with
                  | some cs =>
                    obtain ⟨go, g1, -, -, g4⟩ := hnewS cs hnn
                    rw [g1] at hm
                    have : some sp.g = go := by simpa using hm
                    exact g4 t0 sp h2 h1 this.symm
                  | none =>
                    rw [hgn, hnn] at hm
                    unfold anew at hnew
                    cases nw with
                    | none => cases hm
                    | some b =>
                      simp only at hnew
                      split at hnew
                      · rw [hnn] at hnew; cases hnew
                      · cases hnew
              · obtain ⟨t', h1⟩ := s3c t sp hsp
                exact hs.cap t' sp h1
              · have ht1 : t ∈ tab.map (·.1) := ht
                have ht2 : t' ∈ tab.map (·.1) := ht'
                obtain ⟨⟨i, x⟩, m1, m2⟩ := List.mem_map.1 ht1
                obtain ⟨⟨i', x'⟩, m1', m2'⟩ := List.mem_map.1 ht2
                have m3 : i = t := m2
                have m3' : i' = t' := m2'
                subst m3 m3'
                rw [s3t i x m1] at h1
                rw [s3t i' x' m1'] at h2
                obtain ⟨t0, e1, h3⟩ := Option.bind_eq_some_iff.1 h1
                obtain ⟨t0', e1', h3'⟩ := Option.bind_eq_some_iff.1 h2
                subst e1 e1'
                have := hs.tinj t0 t0' sp sp' (tabLive _ _ m1) (tabLive _ _ m1') h3 h3' hg
                subst this
                exact congrArg Prod.fst (distinct_filterMap (·.2) tab k2 (i, some t0) (i', some t0) t0 m1 m1' rfl rfl)
              · rw [s3n k (by omega)] at hsp
                have := hs.capB k (by omega) sp hsp
                exact this
            · cases hk
          · cases hk
        · cases hk
      cases e with
      | normal => exact fin hk
      | ret => exact fin hk
      | _ => cases hk
    · cases h
  · cases h
end
end Go.Proofs.YtdmedeaknnldcaaGreatDoor
