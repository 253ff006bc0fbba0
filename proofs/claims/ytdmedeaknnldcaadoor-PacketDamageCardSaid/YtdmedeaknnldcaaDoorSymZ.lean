/- A slice over a variable becomes a list: the variable is frozen. -/
import Derived.Test.YtdmedeaknnldcaaDoorSymX
namespace Go.Proofs.YtdmedeaknnldcaaDoor
open Go.RowKit
set_option linter.unusedVariables false
set_option linter.unusedSimpArgs false
set_option linter.unnecessarySimpa false
section
variable {P : Program} {T : Tab} {B : Base} {M M' : Mem} {ρ ρ' : Rho} {σ σ' : Sig} {s : AS} {a : Act} {w : World}
/-- The variable is given up; its slice reads as a list. -/
theorem SimW.fz (h : SimW B M ρ σ s a w) {b L n : Nat} {cs : List AV} (hb : s.bx b = some cs) (hni : s.nin ≤ b) (htk : s.tk (tD b 0) = none) (hvk : s.tk (vk b) ≠ none) (hn : 0 < n) (hL : L * n ≤ cs.length) {c : Value} (hc : Rd M ρ σ c (.vs b 0 L n)) :
    ∃ M' σ', SimW B M' ρ σ' ((s.ap (.box b none)).ap (.tok (tD b 0) true)) a w ∧ (∀ c v, Rd M ρ σ c v → Rd M' ρ σ' c v) ∧ Rd M' ρ σ' c (.list n (chunks (cs.take (L * n)) n L) (some (tD b 0))) := by
  have hdr := h.drop b hvk
  cases hc with
  | vsn => exact ⟨M, σ, hdr.tokfree (tD b 0) htk, fun _ _ h => h, by simpa [chunks] using Rd.nil⟩
  | vse =>
    refine ⟨M, σ, hdr.tokfree (tD b 0) htk, fun _ _ h => h, ?_⟩
    simp only [chunks]
    exact .list (fun _ _ => .bool true) rfl (Nat.le_refl _) (fun i h => by cases h) (fun i j h => by cases h) (fun _ _ => rfl) (fun i j h => by cases h) (fun k _ => .inl rfl)
  | @vs _ _ _ g _ _ cap _ hg hlc hcap =>
    obtain ⟨sp, p1, p2, p3⟩ := hcap
    rw [Nat.zero_add] at p3
    rcases h.box b cs hb with ⟨-, e⟩ | ⟨g', hg', ⟨ccs, ty, r1, r2, r3, r4⟩, r5, -⟩
    · rw [hg] at e; cases e
    rw [hg] at hg'
    cases hg'
    have hbase : B.w0.heap.size ≤ g := h.fresh b g hni hg
    obtain ⟨ccs0, ty0, w1, w2⟩ := h.cap _ _ p1
    rw [p2] at w1
    obtain ⟨rfl, rfl⟩ := r1.uniq w1
    have hnob : ∀ b', (s.ap (.box b none)).bx b' ≠ none → ρ b' ≠ some g := fun b' hb' e => by
      rw [AS.bx_set] at hb'
      by_cases eb : b' = b
      · rw [if_pos eb] at hb'; exact hb' rfl
      · rw [if_neg eb] at hb'; exact eb (h.inj b' b g hb' (bx_ne hb) e hg)
    have hnot : ∀ t' sp', (s.ap (.box b none)).tk t' = some true → σ t' = some sp' → sp'.g ≠ g := fun t' sp' h1 h2 e => (h.tok t' sp' h1 h2).2.2.2 b (bx_ne hb) (e ▸ hg)
    have hle : L * n ≤ cap * n := Nat.mul_le_mul_right _ hlc
    have hk := hdr.know (tD b 0) htk g ccs ty r1 hbase r5 hnob hnot (L * n) sp.hi (by omega) w2
    have hsd := hdr.snone htk
    have up : ∀ c v, Rd M ρ σ c v → Rd (addC M g 0 (ccs.toList.take (L * n))) ρ (updS σ (tD b 0) ⟨g, L * n, sp.hi⟩) c v := fun c v hr => hr.mono (addC_sub fun o _ _ => r5 o) _ _ (fun _ _ h => h) (updS_up hsd)
    refine ⟨_, _, hk, up, ?_⟩
    have hcl : (cs.take (L * n)).length = L * n := by simp; omega
    have hidx : ∀ i' j, i' < L → j < n → i' * n + j < L * n := fun i' j h1 h2 => by
      have := Nat.mul_le_mul_right n (Nat.succ_le_of_lt h1)
      rw [Nat.succ_mul] at this; omega
    rw [Nat.zero_mul]
    refine .list (fun i' j => if i' < L ∧ j < n then (ccs[i' * n + j]?).getD (.bool true) else .bool true) (chunks_length _ _ _) hlc (fun i' hi' => (chunks_get _ _ _ _ hi' hcl).1) (fun i' j h1 h2 => ?_) (fun i' j => ?_) (fun i' j h1 h2 => ?_) (fun k hk => .inr ⟨_, by cases hk; simp [updS]; rfl, rfl, by simp, by simp; omega⟩)
    · rw [chunks_length] at h1
      have hx := hidx i' j h1 h2
      unfold addC
      rw [if_pos ⟨rfl, by omega, by simp; omega⟩]
      rw [show 0 + i' * n + j - 0 = i' * n + j by omega]
      rw [if_pos ⟨h1, h2⟩, Array.getElem?_eq_getElem (by omega)]
      rw [List.getElem?_take, if_pos hx]
      simp
    · split
      · rename_i hx
        have hx := hidx i' j hx.1 hx.2
        rw [Array.getElem?_eq_getElem (by omega)]
        exact r3 _ _ (by omega)
      · rfl
    · obtain ⟨q1, q2⟩ := chunks_get _ _ _ _ h1 hcl
      have h1' := h1
      rw [chunks_length] at h1'
      have h2' : j < n := by rw [← q1]; exact h2
      have hx := hidx i' j h1' h2'
      rw [q2 j h2 (by omega), if_pos ⟨h1', h2'⟩, Array.getElem?_eq_getElem (by omega)]
      simp only [Option.getD_some, List.getElem_take]
      exact Rd.dat0 (up _ _ (r4 _ _ _))
end
/-- The slices in these slots and cells become lists. -/
def fzs {α : Type} : List Nat → AS → (AS → Option α) → Option α
  | [], s, k => k s
  | t :: r, s, k =>
    match s.at t with
    | .vs b 0 L n =>
      (match s.bx b, s.tk (tD b 0), s.tk (vk b) with
      | some cs, none, some _ =>
        if s.nin ≤ b ∧ 0 < n then
          if L * n ≤ cs.length then fzs r (((s.ap (.box b none)).ap (.tok (tD b 0) true)).ap (.env t (.list n (chunks (cs.take (L * n)) n L) (some (tD b 0))))) k else none
        else none
      | _, _, _ => none)
    | _ => none
def fzc {α : Type} : List (Nat × Nat) → AS → (AS → Option α) → Option α
  | [], s, k => k s
  | p :: r, s, k =>
    match s.bx p.1 with
    | some ccs =>
      (match ccs[p.2]? with
      | some (.vs b 0 L n) =>
        (match s.bx b, s.tk (tD b 0), s.tk (vk b) with
        | some cs, none, some _ =>
          if s.nin ≤ b ∧ 0 < n ∧ p.1 ≠ b then
            if L * n ≤ cs.length then fzc r (((s.ap (.box b none)).ap (.tok (tD b 0) true)).ap (.box p.1 (some (ccs.set p.2 (.list n (chunks (cs.take (L * n)) n L) (some (tD b 0))))))) k else none
          else none
        | _, _, _ => none)
      | _ => none)
    | none => none
theorem fzs_ok {α : Type} {B : Base} {a : Act} {w : World} {k : AS → Option α} {x : α} : ∀ (ts : List Nat) (s : AS), fzs ts s k = some x → Sim B s a w → ∃ s', k s' = some x ∧ Sim B s' a w
  | [], s, h, hS => ⟨s, h, hS⟩
  | t :: r, s, h, hS => by
    unfold fzs at h
    split at h
    · rename_i b L n hat
      split at h
      · rename_i cs mk hb htk hvk
        split at h
        · rename_i c1
          split at h
          · rename_i c2
            obtain ⟨M, ρ, σ, hs⟩ := hS
            have hr := hs.env t
            rw [hat] at hr
            obtain ⟨M', σ', q1, q2, q3⟩ := hs.fz hb c1.1 htk (by rw [hvk]; simp) c1.2 c2 hr
            exact fzs_ok r _ h ⟨M', ρ, σ', q1.reread t _ q3⟩
          · cases h
        · cases h
      · cases h
    · cases h
theorem fzc_ok {α : Type} {B : Base} {a : Act} {w : World} {k : AS → Option α} {x : α} : ∀ (ts : List (Nat × Nat)) (s : AS), fzc ts s k = some x → Sim B s a w → ∃ s', k s' = some x ∧ Sim B s' a w
  | [], s, h, hS => ⟨s, h, hS⟩
  | p :: r, s, h, hS => by
    unfold fzc at h
    split at h
    · rename_i ccs hp
      split at h
      · rename_i b L n hat
        split at h
        · rename_i cs mk hb htk hvk
          split at h
          · rename_i c1
            split at h
            · rename_i c2
              obtain ⟨M, ρ, σ, hs⟩ := hS
              obtain ⟨hlt, hat'⟩ := List.getElem?_eq_some_iff.1 hat
              rcases hs.box p.1 ccs hp with ⟨e1, -⟩ | ⟨g, q1, ⟨vs, ty, r1, r2, r3, r4⟩, r5, r6⟩
              · subst e1; cases hlt
              have hr := r4 p.2 (by omega) hlt
              rw [hat'] at hr
              obtain ⟨M', σ', p1, p2, p3⟩ := hs.fz hb c1.1 htk (by rw [hvk]; simp) c1.2.1 c2 hr
              have hbx : ((s.ap (.box b none)).ap (.tok (tD b 0) true)).bx p.1 = some ccs := by
                show (s.ap (.box b none)).bx p.1 = some ccs
                rw [AS.bx_set, if_neg c1.2.2]; exact hp
              refine fzc_ok r _ h ⟨M', ρ, σ', p1.rebox hbx _ (.inr ⟨g, q1, vs, ty, r1, by simpa using r2, fun i hi hi' => r3 i hi (by simpa using hi'), fun i hi hi' => ?_⟩)⟩
              rw [List.getElem_set]
              split
              · rename_i e; subst e; exact p3
              · exact p2 _ _ (r4 _ _ _)
            · cases h
          · cases h
        · cases h
      · cases h
    · cases h
end Go.Proofs.YtdmedeaknnldcaaDoor
