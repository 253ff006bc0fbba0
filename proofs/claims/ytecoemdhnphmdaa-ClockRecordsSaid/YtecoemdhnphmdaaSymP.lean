/- Functions without memory. -/
import Derived.Test.YtecoemdhnphmdaaSymO
namespace Go.Proofs.Ytecoemdhnphmdaa
open Go.RowKit
set_option linter.unusedVariables false
set_option linter.unusedSimpArgs false
set_option linter.unnecessarySimpa false
def ainit (nt : Nat) (args : List AV) (bs : List (List AV)) : AS where
  env := args ++ List.replicate (nt - args.length) .any
  box := bs.map some ++ List.replicate (nt - bs.length) none
  tok := []
  nin := bs.length
def aresult (T : Tab) (s : AS) : ResultVar → Option AV
  | .tmp t => some (s.at t)
  | .cell a t => match s.at a with
    | .ptr b off => (match s.bx b with | some cs => ld T t cs off | none => none)
    | _ => none
def aresults (T : Tab) (s : AS) : List ResultVar → Option (List AV)
  | [] => some []
  | r :: l => match aresult T s r, aresults T s l with
    | some v, some vs => some (v :: vs)
    | _, _ => none
def aouts (s : AS) : Nat → Nat → Option (List (List AV))
  | _, 0 => some []
  | k, n + 1 => match s.bx k, aouts s (k + 1) n with
    | some cs, some r => some (cs.map dat0 :: r)
    | _, _ => none
/-- A nil slice among the results is read as a list, where the shape says so. -/
def coeC : Option Nat → AV → AV
  | some n, .v (.slice none 0 0) => .list n [] none
  | _, x => x
def zipC : List (Option Nat) → List AV → List AV
  | k :: ks, c :: cs => coeC k c :: zipC ks cs
  | _, cs => cs
def coeR (ks : List (Option Nat)) : AV → AV
  | .agg cs => .agg (zipC ks cs)
  | v => coeC (ks.headD none) v
def zipR : List (List (Option Nat)) → List AV → List AV
  | k :: ks, c :: cs => coeR k c :: zipR ks cs
  | _, cs => cs
def nilOwn (ks : List (Option Nat)) : AV → Option Nat
  | .v (.slice none 0 0) => ks.headD none
  | _ => none
def afin (T : Tab) (fn : Func) (sh : List (List (Option Nat))) (s : AS) : Option Ret :=
  match aresults T s fn.results.toList, aouts s 0 s.nin with
  | some [v], some os =>
    (match nilOwn (sh.headD []) v with
    | some n => some ⟨.list n [] (some 0), os, none⟩
    | none =>
    match coeR (sh.headD []) v with
    | .ptr b off => if s.nin ≤ b ∧ off = 0 then (match s.bx b with | some cs => some ⟨.any, os, some (cs.map dat0)⟩ | none => none) else some ⟨.any, os, none⟩
    | .list n xs (some k) => (match s.tk k with | some true => some ⟨.list n xs (some 0), os, none⟩ | _ => some ⟨.list n xs none, os, none⟩)
    | v => some ⟨dat2 v, os, none⟩)
  | some vs, some os => some ⟨.tup ((zipR sh vs).map dat1), os, none⟩
  | _, _ => none
def acall (T : Tab) (Γ : GamK) (An : Nat → Keep × Keep) (Λ : LoopK) (fn : Func) (sh : List (List (Option Nat))) (args : List AV) (bs : List (List AV)) : Option Ret :=
  match fn.body with
  | some c =>
    if args.length ≤ fn.ntmps ∧ bs.length ≤ fn.ntmps then
      aexec T Γ An Λ c 0 (ainit fn.ntmps args bs) fun e s => match e with
        | .normal => afin T fn sh s
        | .ret => afin T fn sh s
        | _ => none
    else none
  | none => none
section
variable {P : Program} {T : Tab} {Γ : GamK} {B : Base} {M : Mem} {ρ ρ' : Rho} {σ σ' : Sig} {s s' : AS} {a : Act} {w : World} {Q : Exit → Act → World → Prop}
def rv (tmps : Array Value) : ResultVar → Sem Value
  | .tmp t => pure (tmps.getD t undef)
  | .cell a t => do loadVar t (← asAddr (tmps.getD a undef))
theorem results_rv (fn : Func) (tmps : Array Value) : results fn tmps = (do let vs ← fn.results.mapM (rv tmps); pure (if h : vs.size = 1 then vs[0] else .tuple vs)) := rfl
theorem aresults_ok (hT : TabOk P T) (h : SimW B M ρ σ s a w) : ∀ (l : List ResultVar) (vs : List AV), aresults T s l = some vs → ∃ cs : List Value, (l.mapM (rv a.tmps)).run P w = .ok cs w ∧ cs.length = vs.length ∧ ∀ i (h : i < cs.length) (h' : i < vs.length), Rd M ρ σ cs[i] vs[i]
  | [], vs, hv => by cases hv; exact ⟨[], rfl, rfl, fun i h => by cases h⟩
  | r :: l, vs, hv => by
    unfold aresults at hv
    split at hv
    · rename_i v vs' h1 h2
      cases hv
      obtain ⟨cs, q1, q2, q3⟩ := aresults_ok hT h l vs' h2
      have one : ∃ c, (rv a.tmps r).run P w = .ok c w ∧ Rd M ρ σ c v := by
        cases r with
        | tmp t => cases h1; exact ⟨_, rfl, h.env t⟩
        | cell b t =>
          simp only [aresult] at h1
          have hb := h.env b
          split at h1
          · rename_i bb off hat
            rw [hat] at hb
            split at h1
            · rename_i cs0 hcs
              generalize hq : a.tmps.getD b undef = xv at hb
              cases hb with
              | ptr hg =>
                obtain ⟨c, e1, e2⟩ := ld_ok hT (h.lies hcs hg) h1
                rw [Nat.zero_add] at e1
                refine ⟨c, ?_, e2⟩
                simp only [rv, hq, asAddr, Sem.run_bind, Sem.run_pure, Result.andThen_ok, e1]
            · cases h1
          · cases h1
      obtain ⟨c, o1, o2⟩ := one
      refine ⟨c :: cs, ?_, by simp [q2], fun i hi hi' => ?_⟩
      · rw [List.mapM_cons]
        simp only [Sem.run_bind, o1, Result.andThen_ok, q1, Sem.run_pure]
      · cases i with
        | zero => exact o2
        | succ i => exact q3 i (by simpa using hi) (by simpa using hi')
    · cases hv
theorem Rd.coeC {k : Option Nat} {c : Value} {v : AV} (h : Rd M ρ σ c v) : Rd M ρ σ c (coeC k v) := by
  unfold Go.Proofs.Ytecoemdhnphmdaa.coeC
  split
  · rw [h.v_inv]; exact .nil
  · exact h
theorem zipC_get : ∀ (ks : List (Option Nat)) (cs : List AV), (zipC ks cs).length = cs.length ∧ ∀ i (h : i < (zipC ks cs).length) (h' : i < cs.length), (zipC ks cs)[i] = cs[i] ∨ ∃ k, (zipC ks cs)[i] = coeC k cs[i]
  | [], cs => ⟨by cases cs <;> rfl, fun i h h' => .inl (by cases cs <;> rfl)⟩
  | k :: ks, [] => ⟨rfl, fun i h => by cases h⟩
  | k :: ks, c :: cs => by
    obtain ⟨h1, h2⟩ := zipC_get ks cs
    refine ⟨by simp [zipC, h1], fun i h h' => ?_⟩
    cases i with
    | zero => exact .inr ⟨k, rfl⟩
    | succ i => exact h2 i (by simpa [zipC] using h) (by simpa using h')
theorem Rd.coeR {ks : List (Option Nat)} {c : Value} {v : AV} (h : Rd M ρ σ c v) : Rd M ρ σ c (coeR ks v) := by
  cases h with
  | agg hl h1 hr =>
    rename_i ccs cs
    obtain ⟨z1, z2⟩ := zipC_get ks cs
    refine .agg (by rw [z1]; exact hl) h1 fun i x y => ?_
    have y' : i < cs.length := by omega
    rcases z2 i y y' with e | ⟨k, e⟩
    · rw [e]; exact hr i x y'
    · rw [e]; exact (hr i x y').coeC
  | any => exact Rd.coeC (k := ks.headD none) .any
  | v => exact Rd.coeC (k := ks.headD none) .v
  | nil => exact Rd.coeC (k := ks.headD none) .nil
  | list cf h1 h2 h3 h4 h5 h6 h7 => exact Rd.coeC (k := ks.headD none) (.list cf h1 h2 h3 h4 h5 h6 h7)
  | tup h1 h2 => exact Rd.coeC (k := ks.headD none) (.tup h1 h2)
  | ptr hb => exact Rd.coeC (k := ks.headD none) (.ptr hb)
  | ref cf h1 h2 h3 => exact Rd.coeC (k := ks.headD none) (.ref cf h1 h2 h3)
  | fn h1 h2 h3 h4 => exact Rd.coeC (k := ks.headD none) (.fn h1 h2 h3 h4)
  | vs h hl => exact Rd.coeC (k := ks.headD none) (.vs h hl)
theorem zipR_get : ∀ (ks : List (List (Option Nat))) (cs : List AV), (zipR ks cs).length = cs.length ∧ ∀ i (h : i < (zipR ks cs).length) (h' : i < cs.length), (zipR ks cs)[i] = cs[i] ∨ ∃ k, (zipR ks cs)[i] = coeR k cs[i]
  | [], cs => ⟨by cases cs <;> rfl, fun i h h' => .inl (by cases cs <;> rfl)⟩
  | k :: ks, [] => ⟨rfl, fun i h => by cases h⟩
  | k :: ks, c :: cs => by
    obtain ⟨h1, h2⟩ := zipR_get ks cs
    refine ⟨by simp [zipR, h1], fun i h h' => ?_⟩
    cases i with
    | zero => exact .inr ⟨k, rfl⟩
    | succ i => exact h2 i (by simpa [zipR] using h) (by simpa using h')
theorem aouts_spec (s : AS) : ∀ (n k : Nat) (os : List (List AV)), aouts s k n = some os → os.length = n ∧ ∀ i (h : i < os.length), ∃ cs, s.bx (k + i) = some cs ∧ os[i] = cs.map dat0
  | 0, k, os, h => by cases h; exact ⟨rfl, fun i h => by cases h⟩
  | n + 1, k, os, h => by
    unfold aouts at h
    split at h
    · rename_i cs r h1 h2
      cases h
      obtain ⟨q1, q2⟩ := aouts_spec s n (k + 1) r h2
      refine ⟨by simp [q1], fun i hi => ?_⟩
      cases i with
      | zero => exact ⟨cs, h1, rfl⟩
      | succ i =>
        obtain ⟨cs', e1, e2⟩ := q2 i (by simpa using hi)
        exact ⟨cs', by rw [← e1]; congr 1; omega, e2⟩
    · cases h
theorem init_ok {nt : Nat} {args : List AV} {bs : List (List AV)} (ha : args.length ≤ nt) (hb : bs.length ≤ nt) {cargs : Array Value} {gs : List Nat} (mem : ∀ g o v, M g o = some v → w.cell? ⟨g, o, none⟩ = some v) (hn : gs.Nodup) (hl : gs.length = bs.length) (hsz : cargs.size = args.length) (hr : ∀ i (h : i < cargs.size) (h' : i < args.length), Rd M (gsR gs) sig0 cargs[i] args[i])
    (hbx : ∀ k (h : k < gs.length) (h' : k < bs.length), HasBox M (gsR gs) w gs[k] bs[k]) : SimW ⟨w, M, gs⟩ M (gsR gs) sig0 (ainit nt args bs) { tmps := cargs ++ Array.replicate (nt - cargs.size) undef, defers := [] } w := by
  have hbx' : ∀ b cs, (ainit nt args bs).bx b = some cs → ∃ h : b < bs.length, cs = bs[b] := fun b cs hq => by
    unfold AS.bx ainit at hq
    simp only at hq
    by_cases hlt : b < bs.length
    · rw [List.getElem?_append_left (by simpa using hlt), List.getElem?_map, List.getElem?_eq_getElem hlt] at hq
      simp at hq
      exact ⟨hlt, hq.symm⟩
    · rw [List.getElem?_append_right (by simp; omega), List.getElem?_replicate] at hq
      split at hq <;> cases hq
  refine { nin := hl.symm, own := fun k g g' hk hr' => ?_, fresh := fun b g hb' hr' => ?_, len := ?_, blen := ?_, env := fun t => ?_, defers := rfl, mem := mem, memB := fun _ _ _ => rfl, os := rfl, tape := rfl, output := rfl, size := Nat.le_refl _, block := fun _ _ _ => rfl, box := fun b cs hq => ?_, rho := fun b g hg => ?_, inj := fun b b' g h1 h2 => ?_, tok := fun t sp ht => ?_, sig := fun t sp ht => ?_, tinj := fun t t' sp sp' ht => ?_ }
  · simp [ainit]; omega
  · simp [ainit]; omega
  · have e : (ainit nt args bs).at t = if h : t < args.length then args[t] else .any := by
      unfold AS.at ainit
      simp only
      by_cases hlt : t < args.length
      · rw [dif_pos hlt, List.getElem?_append_left hlt, List.getElem?_eq_getElem hlt]; rfl
      · rw [dif_neg hlt, List.getElem?_append_right (by omega), List.getElem?_replicate]
        split <;> rfl
    rw [e]
    split
    · rename_i hlt
      have h1 : t < cargs.size := by omega
      have : (cargs ++ Array.replicate (nt - cargs.size) undef).getD t undef = cargs[t] := by
        rw [Array.getD_eq_getD_getElem?, Array.getElem?_append_left h1, Array.getElem?_eq_getElem h1]; rfl
      rw [this]
      exact hr t h1 hlt
    · exact .any
  · have : gs[k]? = some g' := hr'
    rw [show gs[k]? = some g from hk] at this
    exact (Option.some.inj this).symm
  · have h1 : gs[b]? = some g := hr'
    have h2 := (List.getElem?_eq_some_iff.1 h1).1
    have h3 : bs.length ≤ b := hb'
    omega
  · obtain ⟨hlt, rfl⟩ := hbx' b cs hq
    obtain ⟨⟨ccs, t, q1, q2, q3, q4⟩, q5⟩ := hbx b (by omega) hlt
    exact ⟨gs[b]'(by omega), List.getElem?_eq_getElem _, ⟨ccs, t, q1, q2, q3, q4⟩, q5, .inr (List.getElem_mem _)⟩
  · have h1 : gs[b]? = some g := hg
    have h2 := (List.getElem?_eq_some_iff.1 h1).1
    refine ⟨bs[b]'(by omega), ?_⟩
    unfold AS.bx ainit
    simp only
    rw [List.getElem?_append_left (by simp; omega), List.getElem?_map, List.getElem?_eq_getElem (by omega)]
    rfl
  · have q1 : gs[b]? = some g := h1
    have q2 : gs[b']? = some g := h2
    obtain ⟨l1, e1⟩ := List.getElem?_eq_some_iff.1 q1
    obtain ⟨l2, e2⟩ := List.getElem?_eq_some_iff.1 q2
    unfold List.Nodup at hn
    rw [List.pairwise_iff_getElem] at hn
    rcases Nat.lt_trichotomy b b' with hlt | heq | hlt
    · exact absurd (e1.trans e2.symm) (hn b b' l1 l2 hlt)
    · exact heq
    · exact absurd (e2.trans e1.symm) (hn b' b l2 l1 hlt)
  · cases ht
  · cases ht
  · cases ht
/-- A FUNCTION's ANSWER WITHOUT MEMORY IS ITS ANSWER. -/
theorem acall_ok (hT : TabOk P T) (hG : GOk P Γ.v) (hm : P.follows .mixedOrders = true) {f : FuncId} {fn : Func} (hf : P.funcs[f]? = some fn) (hname : (fn.name == "runtime.NumGoroutine") = false) (An : Nat → Keep × Keep) (Λ : LoopK) (hL : ∀ c, fn.body = some c → ∀ p ∈ loopsOf c 0, ∀ s o, s = canon (An p.1).1 s → Λ.v p.1 s = some o → LoopSem P p.2 s o) {sh : List (List (Option Nat))} {args : List AV} {bs : List (List AV)} {r : Ret}
    (h : acall T Γ An Λ fn sh args bs = some r) : CallOk P f args bs r := by
  unfold acall at h
  split at h
  · rename_i c hc
    split at h
    · rename_i hle
      refine ⟨⟨fn, hf, hname, by rw [hc]; rfl⟩, fun M w cargs gs mem hn hl hsz hr hbx => ?_⟩
      refine calls_of_wp hf hc (aexec_ok hT hG hm An Λ c 0 (hL c hc) Ret _ _ r _ _ w _ h ⟨M, _, _, init_ok hle.1 hle.2 mem hn hl hsz hr hbx⟩ fun e s a w' hk hS => ?_)
      have fin : afin T fn sh s = some r → bodyPost P fn (fun e w' => ∃ c M', e = .returned c ∧ Left M w gs r c M' w') .ret a w' := fun hk => by
        obtain ⟨M', ρ, σ, hs⟩ := hS
        unfold afin at hk
        have sub : ∀ g o v, M g o = some v → M' g o = some v := fun g o v hv => by
          rw [hs.memB g o (cell_lt (mem g o v hv))]; exact hv
        have frm : Frm w w' gs := ⟨hs.os, hs.tape, hs.output, hs.size, hs.block⟩
        have gk : ∀ k cs (h : k < gs.length), s.bx k = some cs → HasBox M' (gsR gs) w' gs[k] (cs.map dat0) := fun k cs hlt hcs => by
          obtain ⟨g, q1, ⟨ccs, t, q2, q3, q4, q5⟩, q6, -⟩ := hs.box k cs hcs
          have := hs.own k gs[k] g (List.getElem?_eq_getElem hlt) q1
          subst this
          exact ⟨⟨ccs, t, q2, Pw.dat0 ⟨q3, q4, q5⟩ _ _⟩, q6⟩
        have left : ∀ (val : AV) (os : List (List AV)) (new : Option (List AV)) (c : Value), aouts s 0 s.nin = some os → (new = none → Rd M' (gsR gs) sig0 c (dat2 val) ∧ Owns M' w' w.heap.size c val) → (∀ cs, new = some cs → ∃ g, c = .pointer (some ⟨g, 0, none⟩) ∧ w.heap.size ≤ g ∧ HasBox M' (gsR gs) w' g cs) → Left M w gs ⟨val, os, new⟩ c M' w' := fun val os new c ho h1 h2 => by
          obtain ⟨o1, o2⟩ := aouts_spec s _ _ _ ho
          rw [hs.nin] at o1
          refine ⟨sub, hs.mem, hs.memB, frm, o1, fun k hk hk' => ?_, h1, h2⟩
          obtain ⟨cs, c1, c2⟩ := o2 k hk'
          rw [Nat.zero_add] at c1
          dsimp only
          rw [c2]
          exact gk k cs hk c1
        have ownsNone : ∀ c v, (∀ n xs k, v ≠ .list n xs (some k)) → Owns M' w' w.heap.size c v := fun c v hv => by
          unfold Owns
          split
          · rename_i n xs k; exact absurd rfl (hv n xs k)
          · trivial
        have ex : ∀ (vs : List AV), aresults T s fn.results.toList = some vs → ∃ cs : List Value, (results fn a.tmps).run P w' = .ok (if h : cs.toArray.size = 1 then cs.toArray[0] else .tuple cs.toArray) w' ∧ cs.length = vs.length ∧ ∀ i (h : i < cs.length) (h' : i < vs.length), Rd M' ρ σ cs[i] vs[i] := fun vs hv => by
          obtain ⟨cs, q1, q2, q3⟩ := aresults_ok hT hs _ _ hv
          refine ⟨cs, ?_, q2, q3⟩
          rw [results_rv]
          simp only [Sem.run_bind]
          have : (fn.results.mapM (rv a.tmps)).run P w' = .ok cs.toArray w' := by
            rw [Array.mapM_eq_mapM_toList]
            show Sem.run P ((fn.results.toList.mapM _) >>= fun l => pure l.toArray) w' = _
            rw [Sem.run_bind, q1]
            rfl
          rw [this]
          rfl
        split at hk
        · rename_i v os hv ho
          obtain ⟨cs, q1, q2, q3⟩ := ex _ hv
          obtain ⟨c, rfl⟩ : ∃ c, cs = [c] := by
            cases cs with
            | nil => simp at q2
            | cons c l => cases l with
              | nil => exact ⟨c, rfl⟩
              | cons _ _ => simp at q2
          have hc := q3 0 (by simp) (by simp)
          simp only [List.getElem_cons_zero] at hc
          refine ⟨hs.defers, c, by rw [q1]; rfl, c, M', rfl, ?_⟩
          split at hk
          · rename_i n hnil
            cases hk
            unfold nilOwn at hnil
            split at hnil
            · rw [hc.v_inv]
              exact left _ _ _ _ ho (fun _ => ⟨.nil, trivial⟩) (fun cs h => by cases h)
            · cases hnil
          have hc0 := hc
          replace hc := hc0.coeR (ks := sh.headD [])
          generalize coeR (sh.headD []) v = v at hk hc
          split at hk
          · rename_i b off
            split at hk
            · rename_i hb
              obtain ⟨hb1, rfl⟩ := hb
              split at hk
              · rename_i cs hcs
                cases hk
                refine left _ _ _ _ ho (fun h => by cases h) fun cs' hcs' => ?_
                cases hcs'
                cases hc with
                | ptr hg =>
                  obtain ⟨g, p1, ⟨ccs, t, p2, p3, p4, p5⟩, p6, -⟩ := hs.box b cs hcs
                  rw [hg] at p1
                  cases p1
                  exact ⟨_, rfl, hs.fresh b _ hb1 hg, ⟨ccs, t, p2, Pw.dat0 ⟨p3, p4, p5⟩ _ _⟩, p6⟩
              · cases hk
            · cases hk
              exact left _ _ _ _ ho (fun _ => ⟨.any, ownsNone _ _ (by simp)⟩) (fun cs h => by cases h)
          · rename_i n xs k
            split at hk
            · rename_i htk
              cases hk
              refine left _ _ _ _ ho (fun _ => ⟨hc.dat2.of0, ?_⟩) (fun cs h => by cases h)
              cases hc with
              | nil => trivial
              | @list _ _ g off len cap _ _ _ cf h1 h2 h3 h4 h5 h6 h7 =>
                show off + len * n = off + cap * n ∨ _
                rcases h7 k rfl with e | ⟨sp, e1, rfl, e3, e4⟩
                · exact .inl e
                · obtain ⟨t1, ⟨ccs, ty, t2, t3, t4⟩, t5, -⟩ := hs.tok k sp htk e1
                  refine .inr ⟨t1, ⟨ccs, ty, t2, by dsimp only; omega⟩, fun o x y => t5 o (by dsimp only at x; omega) (by dsimp only at y; omega)⟩
            · cases hk
              exact left _ _ _ _ ho (fun _ => ⟨hc.dat2.of0, ownsNone _ _ (by simp)⟩) (fun cs h => by cases h)
          · rename_i v' hv1 hv2
            cases hk
            have e := dat2_idem v
            refine left _ _ _ _ ho (fun _ => ⟨by rw [e]; exact hc.dat2.of0, ownsNone _ _ (fun n xs k he => ?_)⟩) (fun cs h => by cases h)
            cases v with
            | list n' xs' k' => cases he
            | fn f fs bs => cases fs <;> cases bs <;> cases he
            | _ => cases he
        · rename_i vs os hne hv ho
          cases hk
          obtain ⟨cs, q1, q2, q3⟩ := ex _ hv
          have hn1 : ¬ (cs.toArray.size = 1) := fun h1 => by
            have : vs.length = 1 := by simp at h1; omega
            obtain ⟨v, rfl⟩ := List.length_eq_one_iff.1 this
            exact hne v rfl
          rw [dif_neg hn1] at q1
          refine ⟨hs.defers, _, q1, _, M', rfl, left _ _ _ _ ho (fun _ => ⟨?_, ownsNone _ _ (by simp)⟩) (fun cs h => by cases h)⟩
          obtain ⟨z1, z2⟩ := zipR_get sh vs
          have e := dat2_idem (.tup (zipR sh vs))
          show Rd M' (gsR gs) sig0 _ (dat2 (dat2 (.tup (zipR sh vs))))
          rw [e]
          refine (Rd.dat2 (ρ := ρ) (σ := σ) (.tup (by rw [z1]; simpa using q2) fun i x y => ?_)).of0
          have y' : i < vs.length := by omega
          have base := q3 i (by simpa using x) y'
          rcases z2 i y y' with e | ⟨k, e⟩
          · rw [e]; simpa using base
          · rw [e]; simpa using base.coeR
        · cases hk
      cases e with
      | normal => exact fin hk
      | ret => exact fin hk
      | exit i => cases hk
      | goto i => cases hk
      | panic i => cases hk
      | outgrown => cases hk
    · cases h
  · cases h
end
end Go.Proofs.Ytecoemdhnphmdaa
