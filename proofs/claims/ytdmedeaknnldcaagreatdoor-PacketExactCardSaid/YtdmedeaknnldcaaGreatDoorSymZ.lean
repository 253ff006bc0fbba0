/- A slice over a variable becomes a list: the variable is frozen. -/
import Derived.Test.YtdmedeaknnldcaaGreatDoorSymX
namespace Go.Proofs.YtdmedeaknnldcaaGreatDoor
open Go.RowKit
set_option linter.unusedVariables false
set_option linter.unusedSimpArgs false
set_option linter.unnecessarySimpa false
/-- The slices in these slots and cells become lists. -/
def fzs {α : Type} : List Nat → AS → (AS → Option α) → Option α
  | [], s, k => k s
  | t :: r, s, k =>
    match s.at t with
    | .vs b 0 L n =>
      (match s.bx b, s.tk (tD b 0), s.tk (vk b) with
      | some cs, none, some _ =>
        if s.nin ≤ b ∧ 0 < n then
          if L * n ≤ cs.length then fzs r (((s.ap (.box b none)).ap (.tok (tD b 0) true)).ap (.env t (.list n (chunks (cs.take (L * n)) n L) (some (tD b 0))))) k else none
        else none
      | _, _, _ => none)
    | _ => none
def fzc {α : Type} : List (Nat × Nat) → AS → (AS → Option α) → Option α
  | [], s, k => k s
  | p :: r, s, k =>
    match s.bx p.1 with
    | some ccs =>
      (match ccs[p.2]? with
      | some (.vs b 0 L n) =>
        (match s.bx b, s.tk (tD b 0), s.tk (vk b) with
        | some cs, none, some _ =>
          if s.nin ≤ b ∧ 0 < n ∧ p.1 ≠ b then
            if L * n ≤ cs.length then fzc r (((s.ap (.box b none)).ap (.tok (tD b 0) true)).ap (.box p.1 (some (ccs.set p.2 (.list n (chunks (cs.take (L * n)) n L) (some (tD b 0))))))) k else none
          else none
        | _, _, _ => none)
      | _ => none)
    | none => none
theorem fzs_ok {α : Type} {B : Base} {a : Act} {w : World} {k : AS → Option α} {x : α} : ∀ (ts : List Nat) (s : AS), fzs ts s k = some x → Sim B s a w → ∃ s', k s' = some x ∧ Sim B s' a w
  | [], s, h, hS => ⟨s, h, hS⟩
  | t :: r, s, h, hS => by
    unfold fzs at h
    split at h
    · rename_i b L n hat
      split at h
      · rename_i cs mk hb htk hvk
        split at h
        · rename_i c1
          split at h
          · rename_i c2
            obtain ⟨M, ρ, σ, hs⟩ := hS
            have hr := hs.env t
            rw [hat] at hr
            obtain ⟨M', σ', q1, q2, q3⟩ := hs.fz hb c1.1 htk (by rw [hvk]; simp) c1.2 c2 hr
            exact fzs_ok r _ h ⟨M', ρ, σ', q1.reread t _ q3⟩
          · cases h
        · cases h
      · cases h
    · cases h
theorem fzc_ok {α : Type} {B : Base} {a : Act} {w : World} {k : AS → Option α} {x : α} : ∀ (ts : List (Nat × Nat)) (s : AS), fzc ts s k = some x → Sim B s a w → ∃ s', k s' = some x ∧ Sim B s' a w
  | [], s, h, hS => ⟨s, h, hS⟩
  | p :: r, s, h, hS => by
    unfold fzc at h
    split at h
    · rename_i ccs hp
      split at h
      · rename_i b L n hat
        split at h
        · rename_i cs mk hb htk hvk
          split at h
          · rename_i c1
            split at h
            · rename_i c2
              obtain ⟨M, ρ, σ, hs⟩ := hS
              obtain ⟨hlt, hat'⟩ := List.getElem?_eq_some_iff.1 hat
              rcases hs.box p.1 ccs hp with ⟨e1, -⟩ | ⟨g, q1, ⟨vs, ty, r1, r2, r3, r4⟩, r5, r6⟩
              · subst e1; cases hlt
              have hr := r4 p.2 (by omega) hlt
              rw [hat'] at hr
              obtain ⟨M', σ', p1, p2, p3⟩ := hs.fz hb c1.1 htk (by rw [hvk]; simp) c1.2.1 c2 hr
              have hbx : ((s.ap (.box b none)).ap (.tok (tD b 0) true)).bx p.1 = some ccs := by
                show (s.ap (.box b none)).bx p.1 = some ccs
                rw [AS.bx_set, if_neg c1.2.2]; exact hp
              refine fzc_ok r _ h ⟨M', ρ, σ', p1.rebox hbx _ (.inr ⟨g, q1, vs, ty, r1, by simpa using r2, fun i hi hi' => r3 i hi (by simpa using hi'), fun i hi hi' => ?_⟩)⟩
              rw [List.getElem_set]
              split
              · rename_i e; subst e; exact p3
              · exact p2 _ _ (r4 _ _ _)
            · cases h
          · cases h
        · cases h
      · cases h
    · cases h
end Go.Proofs.YtdmedeaknnldcaaGreatDoor
