/- Regions that draw their order: the law. -/
import Derived.Test.YtdmedeaknnldcaaGreatDoorSymL
namespace Go.Proofs.YtdmedeaknnldcaaGreatDoor
open Go.RowKit
set_option linter.unusedVariables false
set_option linter.unusedSimpArgs false
set_option linter.unnecessarySimpa false
section
variable {P : Program} {T : Tab} {Γ : Gam} {B : Base} {M : Mem} {ρ : Rho} {σ : Sig} {s s' : AS} {a : Act} {w : World} {ops : List Oper} {Q : Exit → Act → World → Prop}
theorem SimW.congr (h : SimW B M ρ σ s a w) (hl : Like s s') (hg : ∀ r, s.get r = s'.get r) : SimW B M ρ σ s' a w := by
  have e1 : ∀ t, s'.at t = s.at t := fun t => by have := hg (.env t); simpa [AS.get] using this.symm
  have e2 : ∀ t, s'.bx t = s.bx t := fun t => by have := hg (.box t); simpa [AS.get] using this.symm
  have e3 : ∀ t, s'.tk t = s.tk t := fun t => (agree_get (hg (.tok (t / 64))) t rfl).symm
  exact { h with
    len := by rw [h.len]; exact hl.el
    own := fun k hk hb => h.own k (by rw [hl.nl]; exact hk) (by rw [← e2]; exact hb)
    inj := fun b b' g h1 h2 => h.inj b b' g (by rw [← e2]; exact h1) (by rw [← e2]; exact h2)
    capB := fun k hk => h.capB k (by rw [hl.nl]; exact hk)
    nink := fun k hk => by rw [e3]; exact h.nink k (by rw [hl.nl]; exact hk)
    nin := by rw [← hl.nl]; exact h.nin
    fresh := fun b g hn hr => h.fresh b g (by rw [hl.nl]; exact hn) hr
    env := fun t => by rw [e1]; exact h.env t
    box := fun b cs hb => by rw [e2] at hb; exact h.box b cs hb
    rho := fun b g hb => by rw [e2, e3]; exact h.rho b g hb
    tok := fun t sp ht hs => by
      rw [e3] at ht
      obtain ⟨q1, q2, q3, q4⟩ := h.tok t sp ht hs
      exact ⟨q1, q2, q3, fun b hb => q4 b (by rw [← e2]; exact hb)⟩
    sig := fun t sp hs => by rw [e3]; exact h.sig t sp hs
    tinj := fun t t' sp sp' ht ht' => by rw [e3] at ht ht'; exact h.tinj t t' sp sp' ht ht' }
theorem Sim.congr (h : Sim B s a w) (hl : Like s s') (hg : ∀ r, s.get r = s'.get r) : Sim B s' a w := by
  obtain ⟨M, ρ, σ, h⟩ := h
  exact ⟨M, ρ, σ, h.congr hl hg⟩
theorem undef_bool (b : Bool) : undef ≠ .bool b := by intro h; cases h
/-- The guard says what the model's does. -/
theorem gval_ok (hS : Sim B s a w) {o : Oper} {g : Bool} (hg : gval ops s o = some g) : Region.wanted o (yielded ops.toArray a.tmps) = g := by
  obtain ⟨M, ρ, σ, h⟩ := hS
  unfold gval at hg
  unfold Region.wanted
  split at hg
  · rename_i hn; rw [hn]; cases hg; rfl
  · rename_i p hp
    obtain ⟨j, want⟩ := p
    rw [hp]
    unfold gslot at hg
    rw [hp] at hg
    simp only at hg
    split at hg
    · rename_i t want' ht
      split at ht
      · rename_i t0 ht0
        cases ht
        split at hg
        · rename_i b hb
          cases hg
          have hr := h.env t
          rw [hb] at hr
          have e := hr.v_inv
          have e2 : a.tmps[t]? = some (.bool b) := by
            rw [Array.getD_eq_getD_getElem?] at e
            cases hq : a.tmps[t]? with
            | none => rw [hq] at e; exact absurd e (undef_bool b)
            | some v => rw [hq] at e; simp at e; rw [e]
          simp only [yielded]
          have e3 : ((ops.toArray[j]?).bind (·.dst)) = some t := by simpa using ht0
          rw [e3]
          simp only [Option.bind_some, e2]
          cases b <;> cases want <;> rfl
        · rename_i x hnb hb
          cases hg
          have hr := h.env t
          rw [hb] at hr
          have e := hr.v_inv
          simp only [yielded]
          have e3 : ((ops.toArray[j]?).bind (·.dst)) = some t := by simpa using ht0
          rw [e3]
          simp only [Option.bind_some]
          rw [Array.getD_eq_getD_getElem?] at e
          cases hq : a.tmps[t]? with
          | none => rfl
          | some v =>
            rw [hq] at e
            simp at e
            subst e
            cases v <;> first | rfl | exact absurd rfl (hnb _)
        · cases hg
      · cases ht
    · cases hg
theorem gstep_ok (hT : TabOk P T) (hG : GOk P Γ) (hS : Sim B s a w) {o : Oper} {W : List Wr} (hs : gstep T Γ ops o s = some W) (K : Act → World → Prop) (hK : ∀ a' w', Sim B (s.aps W) a' w' → K a' w') :
    if Region.wanted o (yielded ops.toArray a.tmps) = true then o.wp P a w K Q else K (a.put o.dst undef) w := by
  unfold gstep at hs
  split at hs
  · rename_i hg
    rw [gval_ok hS hg, if_pos rfl]
    exact step_ok hT hG hS hs K Q hK
  · rename_i hg
    rw [gval_ok hS hg, if_neg (by simp)]
    cases hs
    obtain ⟨M, ρ, σ, h⟩ := hS
    exact hK _ _ ⟨M, ρ, σ, h.out .v o.dst⟩
  · cases hs
theorem gval_agree {o : Oper} (h : ∀ r ∈ greads ops s o, Agree s s' r) : gval ops s' o = gval ops s o := by
  unfold gval
  split
  · rfl
  · split
    · rename_i t want ht
      have : s.at t = s'.at t := h (.env t) (List.mem_append_left _ (by rw [ht]; exact List.mem_cons_self))
      rw [this]
    · rfl
theorem gstep_local {o : Oper} (h : ∀ r ∈ greads ops s o, Agree s s' r) (hni : s.nin = s'.nin) : gstep T Γ ops o s' = gstep T Γ ops o s := by
  unfold gstep
  rw [gval_agree h, step_local (T := T) (Γ := Γ) (fun r hr => h r (List.mem_append_right _ hr)) hni]
/-- A region that draws its order, walked in the text's order. -/
theorem region_any {id : Nat} (hT : TabOk P T) (hG : GOk P Γ) (hm : P.follows .mixedOrders = true) (hdown : downB ops.toArray = true) {tr : Trc} (hrun : crun T Γ ops ops s = some (tr, s')) (hnc : noconf tr (befs ops []) 0 = true)
    (hS : Sim B s a w) (hQ : ∀ a' w', Sim B s' a' w' → Q .normal a' w') : (Code.region id ops.toArray true).wp P Q a w := by
  obtain ⟨n1, n2⟩ := noconf_spec _ _ _ hnc
  obtain ⟨c1, c2, c3⟩ := crun_spec ops s s' tr 0 hrun
  obtain ⟨b1, b2⟩ := befs_spec (ops := ops) ops [] (fun k => by simp) (by simp) (fun L _ i h => by cases h)
  simp only [List.length_nil, Nat.zero_add] at b2
  refine wp_region_inv2 (ops := ops.toArray) (fun L a w => Sim B (mrg L 0 tr s) a w) hm hdown ?_ ?_ ?_
  · obtain ⟨M, ρ, σ, h⟩ := hS
    refine ⟨M, ρ, σ, ?_⟩
    show SimW B M ρ σ (mrg (fun _ => false) 0 tr s) a w.drew
    rw [mrg_none _ _ _ _ (fun _ _ => rfl)]
    exact h.drew
  · have key : ∀ (l : List Oper) (i : Nat), (∀ k, l[k]? = ops[i + k]?) → Steps2 P ops.toArray Q (fun L a w => Sim B (mrg L 0 tr s) a w) l i := by
      intro l
      induction l with
      | nil => intro i _; trivial
      | cons o r ih =>
        intro i hl
        have h0 : ops[i]? = some o := by simpa using (hl 0).symm
        obtain ⟨hio, hoe⟩ := List.getElem?_eq_some_iff.1 h0
        refine ⟨?_, ih (i + 1) (fun k => by have := hl (k + 1); simpa [Nat.add_assoc, Nat.add_comm 1 k] using this)⟩
        intro L a w hLi hcl hcame hI K' hK'
        have hit : i < tr.length := by omega
        obtain ⟨g1, g2⟩ := c3 i hit hio
        rw [hoe] at g1 g2
        simp only [Nat.zero_add] at g1 g2
        -- what is at odds
        have odds : ∀ r, (r ∈ (tr[i]).2 ∨ r ∈ (tr[i]).1.map Wr.at) → ∀ k (hk : k < tr.length), k ≠ i → (L k = decide (k < i)) ∨ r ∉ (tr[k]).1.map Wr.at := by
          intro r hr k hk hki
          by_cases hw : r ∈ (tr[k]).1.map Wr.at
          · left
            by_cases hlt : k < i
            · rw [decide_eq_true hlt]
              rcases n2 k i hk hit (by omega) hlt with hb | hc
              · rw [Nat.zero_add] at hb
                exact b1 L hcl i (by omega) o h0 hcame k hb
              · exfalso
                unfold conf at hc
                simp only [Bool.or_eq_false_iff] at hc
                rcases hr with hr | hr
                · have := (hits_iff _ _).2 ⟨r, hw, hr⟩; rw [hc.1.1] at this; cases this
                · have := (hits_iff _ _).2 ⟨r, hw, hr⟩; rw [hc.1.2] at this; cases this
            · rw [decide_eq_false hlt]
              cases hLk : L k
              · rfl
              · exfalso
                have hkt : k < ops.length := by omega
                have hok : ops[k]? = some ops[k] := List.getElem?_eq_getElem hkt
                rcases n2 i k hit hk (by omega) (by omega) with hb | hc
                · rw [Nat.zero_add] at hb
                  have := b1 L hcl k (by omega) _ hok (hcl k _ (by simpa using hok) hLk) i hb
                  rw [hLi] at this; cases this
                · unfold conf at hc
                  simp only [Bool.or_eq_false_iff] at hc
                  rcases hr with hr | hr
                  · have := (hits_iff _ _).2 ⟨r, hr, hw⟩; rw [hc.2] at this; cases this
                  · have := (hits_iff _ _).2 ⟨r, hr, hw⟩; rw [hc.1.2] at this; cases this
          · exact .inr hw
        have rfls : Like s s := ⟨rfl, rfl⟩
        have A : ∀ r, (r ∈ (tr[i]).2 ∨ r ∈ (tr[i]).1.map Wr.at) → (mrg (fun j => decide (j < i)) 0 tr s).get r = (mrg L 0 tr s).get r := fun r hr => by
          refine (mrg_get L (fun j => decide (j < i)) r tr 0 s s rfls rfl fun k hk => ?_).symm
          rw [Nat.zero_add]
          by_cases hki : k = i
          · subst hki; left; rw [hLi]; simp
          · exact odds r hr k hk hki
        have lk : ∀ L', Like (mrg L' 0 tr s) s := fun L' => mrg_like L' tr 0 s s rfls
        have hst : gstep T Γ ops o (mrg L 0 tr s) = some (tr[i]).1 := by
          rw [gstep_local (fun r hr => agree_get (A r (.inl (by rw [g2]; exact hr)))) ((lk _).trans (lk _).symm).nl]
          exact g1
        refine gstep_ok hT hG hI hst K' fun a' w' hS' => hK' a' w' ?_
        refine hS'.congr ((lk L).aps1 _ |>.trans (lk _).symm) fun r => ?_
        by_cases hr : r ∈ (tr[i]).1.map Wr.at
        · have e1 : (mrg (more1 L i) 0 tr s).get r = (mrg (fun j => decide (j < i + 1)) 0 tr s).get r := mrg_get _ _ r tr 0 s s rfls rfl fun k hk => by
            rw [Nat.zero_add]
            by_cases hki : k = i
            · subst hki; left; simp [more1]
            · rcases odds r (.inr hr) k hk hki with q | q
              · left
                unfold more1
                rw [if_neg hki, q]
                by_cases hlt : k < i
                · rw [decide_eq_true hlt, decide_eq_true (by omega : k < i + 1)]
                · rw [decide_eq_false hlt, decide_eq_false (by omega : ¬ k < i + 1)]
              · exact .inr q
          have e2 := mrg_step tr 0 i hit s
          simp only [Nat.zero_add] at e2
          rw [e1, e2]
          exact get_aps_same _ _ _ r ((lk _).trans (lk _).symm) (A r (.inr hr)).symm
        · rw [get_aps _ _ r hr]
          refine mrg_get _ _ r tr 0 s s rfls rfl fun k hk => ?_
          rw [Nat.zero_add]
          by_cases hki : k = i
          · subst hki; exact .inr hr
          · left; unfold more1; rw [if_neg hki]
    exact key ops 0 (fun k => by simp)
  · intro L a w hall hI
    refine hQ a w ?_
    rw [← c2]
    refine hI.congr ((mrg_like L tr 0 s s ⟨rfl, rfl⟩).trans (mrg_like _ tr 0 s s ⟨rfl, rfl⟩).symm) fun r => mrg_get _ _ r tr 0 s s ⟨rfl, rfl⟩ rfl fun k hk => ?_
    left
    rw [hall (0 + k) (by simp; omega)]
    simp; omega
end
end Go.Proofs.YtdmedeaknnldcaaGreatDoor
