/- Structs and slices of structs that came in, whatever their shape: their cells, by leaves. -/
import Derived.Test.YtdmedeaknnldcaaGreatDoorProg
import Derived.ProofKit
import Derived.OpenShut
import Derived.Deep.Slices
import Derived.ChangeSame
namespace Go.Proofs.YtdmedeaknnldcaaGreatDoor
open Go.ChangeShapes Go.WideShapes Go.ChangeAt Go.RowKit Go.Deep
set_option linter.unusedVariables false
inductive Leaf where
  | int (k : IntKind)
  | str
  | bool
  | sl (t : TypeId)
  deriving DecidableEq
def AllOk (R : Leaf → Value → Prop) : List Leaf → List Value → Prop
  | [], [] => True
  | l :: ls, v :: vs => R l v ∧ AllOk R ls vs
  | _, _ => False
theorem AllOk.cons {R : Leaf → Value → Prop} {l : Leaf} {ls : List Leaf} {cs : List Value} (h : AllOk R (l :: ls) cs) : ∃ v vs, cs = v :: vs ∧ R l v ∧ AllOk R ls vs := by
  match cs, h with
  | v :: vs, h => exact ⟨v, vs, rfl, h.1, h.2⟩
theorem AllOk.nil {R : Leaf → Value → Prop} {cs : List Value} (h : AllOk R [] cs) : cs = [] := by
  match cs, h with
  | [], _ => rfl
theorem AllOk.len {R : Leaf → Value → Prop} : ∀ {ls : List Leaf} {cs : List Value}, AllOk R ls cs → cs.length = ls.length
  | [], [], _ => rfl
  | _ :: _, _ :: _, h => by simp [AllOk.len h.2]
  | [], _ :: _, h => h.elim
  | _ :: _, [], h => h.elim
theorem AllOk.append {R : Leaf → Value → Prop} : ∀ {l1 l2 : List Leaf} {c1 c2 : List Value}, AllOk R l1 c1 → AllOk R l2 c2 → AllOk R (l1 ++ l2) (c1 ++ c2)
  | [], _, [], _, _, h => h
  | _ :: _, _, _ :: _, _, h, h2 => ⟨h.1, AllOk.append h.2 h2⟩
  | [], _, _ :: _, _, h, _ => h.elim
  | _ :: _, _, [], _, h, _ => h.elim
section
variable (P : Program)
def fieldsL (rec : TypeId → Option (List Leaf)) : List Field → Nat → Option (List Leaf)
  | [], _ => some []
  | f :: fs, off => if f.offset = off then
      match rec f.type with
      | some l => if P.cellsOf f.type = l.length then (fieldsL rec fs (off + l.length)).map (l ++ ·) else none
      | none => none
    else none
def leaves : Nat → TypeId → Option (List Leaf)
  | 0, _ => none
  | n + 1, t => match P.underlying t with
    | some (.int k) => some [.int k]
    | some .string => some [.str]
    | some .bool => some [.bool]
    | some (.slice _) => some [.sl t]
    | some (.struct fs) => match fieldsL P (leaves n) fs.toList 0 with
      | some ls => if P.cellsOf t = ls.length then some ls else none
      | none => none
    | _ => none
end
section
variable {H : Type} {enc : TypeId × Value → H} {P : Program} {w : World} {base : Nat} {spare : Nat → Bool} {held : Bool}
/-- What a leaf's cell holds. -/
def LeafOk (enc : TypeId × Value → H) (P : Program) (w : World) (base : Nat) (spare : Nat → Bool) (held : Bool) : Leaf → Value → Prop
  | .int k, v => ∃ n, v = .int k n ∧ (Lit.int k n).wf = true
  | .str, v => ∃ s : ByteArray, v = .string s ∧ s.size ≤ maxLen
  | .bool, v => ∃ b, v = .bool b
  | .sl t, v => ∃ n y, DataW.trod enc P w base spare held n t [v] = some y
theorem fields_ok {rec : TypeId → Option (List Leaf)} {R : Leaf → Value → Prop} {cs : List Value} : ∀ (fs : List Field) (off : Nat) (ls : List Leaf), fieldsL P rec fs off = some ls →
    (∀ f ∈ fs, ∀ l, rec f.type = some l → P.cellsOf f.type = l.length → AllOk R l ((cs.drop f.offset).take l.length)) → AllOk R ls ((cs.drop off).take ls.length)
  | [], off, ls, h, _ => by
    simp only [fieldsL, Option.some.injEq] at h
    subst h
    simp [AllOk]
  | f :: fs, off, ls, h, hf => by
    unfold fieldsL at h
    split at h
    · rename_i ho
      split at h
      · rename_i l hl
        split at h
        · rename_i hc
          simp only [Option.map_eq_some_iff] at h
          obtain ⟨r, hr, rfl⟩ := h
          have h1 := hf f List.mem_cons_self l hl hc
          have h2 := fields_ok fs (off + l.length) r hr (fun g hg => hf g (List.mem_cons_of_mem _ hg))
          rw [List.length_append, List.take_add, List.drop_drop]
          rw [ho] at h1
          exact h1.append h2
        · cases h
      · cases h
    · cases h
theorem trod_leaves : ∀ (n : Nat) (t : TypeId) (ls : List Leaf) (fuel : Nat) (cs : List Value) (x : DataW H × List MemPlace), leaves P n t = some ls → DataW.trod enc P w base spare held fuel t cs = some x → AllOk (LeafOk enc P w base spare held) ls cs
  | 0, t, ls, fuel, cs, x, hl, _ => by simp [leaves] at hl
  | n + 1, t, ls, fuel, cs, x, hl, h => by
    unfold leaves at hl
    split at hl
    · rename_i k hu
      obtain rfl : [Leaf.int k] = ls := by injection hl
      obtain ⟨m, rfl, -, hw⟩ := DataW.trod_int hu h
      exact ⟨⟨m, rfl, hw⟩, trivial⟩
    · rename_i hu
      obtain rfl : [Leaf.str] = ls := by injection hl
      obtain ⟨s, rfl, -, hw⟩ := DataW.trod_string hu h
      exact ⟨⟨s, rfl, hw⟩, trivial⟩
    · rename_i hu
      obtain rfl : [Leaf.bool] = ls := by injection hl
      obtain ⟨s, rfl, -⟩ := DataW.trod_bool hu h
      exact ⟨⟨s, rfl⟩, trivial⟩
    · rename_i e hu
      obtain rfl : [Leaf.sl t] = ls := by injection hl
      have h2 := h
      rcases DataW.trod_slice hu h with ⟨rfl, -⟩ | ⟨a, len, cap, el, re, m, -, rfl, -⟩
      · exact ⟨⟨fuel, x, h2⟩, trivial⟩
      · exact ⟨⟨fuel, x, h2⟩, trivial⟩
    · rename_i fs hu
      split at hl
      · rename_i l hfl
        split at hl
        · rename_i hc
          obtain rfl : l = ls := by injection hl
          obtain ⟨xs, m, rfl, -, hlen, hxl, hf⟩ := DataW.trod_struct hu h
          have := fields_ok (R := LeafOk enc P w base spare held) (cs := cs) fs.toList 0 l hfl (fun f hfm k hk hkc => by
            obtain ⟨i, hi, hif⟩ := List.getElem_of_mem hfm
            have h1 := hf i f (by rw [← Array.getElem?_toList, List.getElem?_eq_getElem hi, hif])
            rw [List.getElem?_eq_getElem (by rw [hxl]; simpa using hi), hkc] at h1
            exact trod_leaves n f.type k m _ _ hk h1)
          rw [List.drop_zero, ← hc, ← hlen, List.take_length] at this
          exact this
        · cases hl
      · cases hl
    · cases hl
/-- A struct that came in by value. -/
theorem agg_in {r : Reach} {b0 n : Nat} {t : TypeId} {fs : Array Field} {v : Value} {d : DataW H} {p : List MemPlace} {ls : List Leaf} (hs : P.underlying t = some (.struct fs)) (hl : leaves P n t = some ls) (hv : Value.okWide P w r b0 t v) (h : DataW.Trod enc P w base spare held t v d p) :
    ∃ cs : List Value, v = .agg cs.toArray ∧ AllOk (LeafOk enc P w base spare held) ls cs := by
  obtain ⟨cs, rfl, -⟩ := okWide_struct hs hv
  obtain ⟨fuel, hf⟩ := h
  exact ⟨cs.toList, by simp, trod_leaves n t ls fuel _ _ hl hf⟩
/-- A slice of structs that came in: its cells, element for element. -/
theorem slice_in {n fuel : Nat} {t e : TypeId} {cs : List Value} {x : DataW H × List MemPlace} {ls : List Leaf} (hs : P.underlying t = some (.slice e)) (hl : leaves P n e = some ls) (hc : P.cellsOf e = ls.length) (h0 : 0 < ls.length) (h : DataW.trod enc P w base spare held fuel t cs = some x) :
    ∃ (a : Option Addr) (len cap : Nat), cs = [.slice a len cap] ∧ len ≤ cap ∧ cap ≤ 9223372036854775807 ∧ (a = none → len = 0 ∧ cap = 0) ∧ (len = 0 ∨ ∃ b off, a = some ⟨b, off, none⟩ ∧ ∀ i, i < len → ∃ vs : List Value, (∀ j v, vs[j]? = some v → w.cell? ⟨b, off + i * ls.length + j, none⟩ = some v) ∧ AllOk (LeafOk enc P w base spare held) ls vs) := by
  rcases DataW.trod_slice hs h with ⟨rfl, -⟩ | ⟨a, len, cap, el, re, m, -, rfl, -, -, hlc, hm, hel, hi, -⟩
  · exact ⟨none, 0, 0, rfl, by omega, by omega, fun _ => ⟨rfl, rfl⟩, .inl rfl⟩
  · refine ⟨some a, len, cap, rfl, hlc, by unfold maxLen at hm; omega, fun hn => (by cases hn), ?_⟩
    by_cases hz : len = 0
    · exact .inl hz
    · right
      have hall : ∀ i, i < len → ∃ vs : List Value, (∀ j, j < ls.length → w.cell? ((a.add (i * ls.length)).add j) = vs[j]?) ∧ AllOk (LeafOk enc P w base spare held) ls vs := by
        intro i hil
        have h1 := hi i hil
        rw [List.getElem?_eq_getElem (by omega), hc] at h1
        obtain ⟨vs, hv1, hv2⟩ := Option.bind_eq_some_iff.1 h1
        obtain ⟨-, hvl, hvc⟩ := World.cells?_some hv1
        exact ⟨vs, fun j hj => hvc j hj, trod_leaves n e ls m _ _ hl hv2⟩
      obtain ⟨vs0, h1, h2⟩ := hall 0 (by omega)
      have hl0 := h2.len
      have hc0 := h1 0 h0
      rw [List.getElem?_eq_getElem (by omega)] at hc0
      obtain ⟨b, off, spot⟩ := a
      have hspot : spot = none := by simpa [Addr.add] using World.cell?_spot hc0
      subst hspot
      refine ⟨b, off, rfl, fun i hil => ?_⟩
      obtain ⟨vs, hv1, hv2⟩ := hall i hil
      refine ⟨vs, fun j v hj => ?_, hv2⟩
      have hjl : j < vs.length := (List.getElem?_eq_some_iff.1 hj).1
      have hvl := hv2.len
      have := hv1 j (by omega)
      rw [hj] at this
      rw [← this]
      congr 1
      by_cases hi0 : i * ls.length = 0
      · by_cases hj0 : j = 0
        · subst hj0; simp [Addr.add, hi0]
        · simp [Addr.add, hi0, hj0]
      · by_cases hj0 : j = 0
        · subst hj0; simp [Addr.add, hi0]
        · simp [Addr.add, hi0, hj0]
end
end Go.Proofs.YtdmedeaknnldcaaGreatDoor
