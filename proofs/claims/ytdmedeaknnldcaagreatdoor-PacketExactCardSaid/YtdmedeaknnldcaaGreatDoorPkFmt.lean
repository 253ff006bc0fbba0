/- source.Format, walked. -/
import Derived.WalkKit
import Derived.RegionTactic
import Derived.ChangeAlike
import Derived.Test.YtdmedeaknnldcaaGreatDoorLib
import Derived.Test.YtdmedeaknnldcaaGreatDoorLibQ
import Derived.Test.YtdmedeaknnldcaaGreatDoorPkShelf
namespace Go.Proofs.YtdmedeaknnldcaaGreatDoor
open Go.RowKit
set_option linter.unusedVariables false
set_option linter.unusedSimpArgs false
set_option linter.unnecessarySimpa false
def dot : ByteArray := ⟨#[46]⟩
def joined (l : List ByteArray) : ByteArray := ⟨(Lib.join (l.map (·.data.toList)) dot.data.toList).toArray⟩
theorem quad_cells {w : World} {g : Nat} {x y z u : Value} {t : TypeId} {fz : Nat × Nat} (h : w.heap[g]? = some (.cells #[x, y, z, u] t fz)) :
    w.cell? ⟨g, 0, none⟩ = some x ∧ w.cell? ⟨g, 1, none⟩ = some y ∧ w.cell? ⟨g, 2, none⟩ = some z ∧ w.cell? ⟨g, 3, none⟩ = some u := by
  refine ⟨?_, ?_, ?_, ?_⟩ <;> simp [World.cell?, World.cells?, h]
theorem alloc_last (w : World) (o : Obj) : (w.alloc o).heap[w.heap.size]? = some o := by
  show (w.heap.push o)[w.heap.size]? = some o
  exact Array.getElem?_push_size
theorem kept_block {B : Nat} {w w' : World} {g : Nat} {o : Obj} (hb : Below B w w') (hg : g < B) (h : w.heap[g]? = some o) : w'.heap[g]? = some o := (hb.block g hg).trans h
theorem join_quad (a b c d : ByteArray) (T : TypeId) (w : World) (hl : (joined [a, b, c, d]).size ≤ 140737488355328) :
    Calls Tryz.prog 59 #[.slice (some ⟨w.heap.size, 0, none⟩) 4 4, .string ⟨#[46]⟩] (w.alloc (.cells #[.string a, .string b, .string c, .string d] T)) fun e w' => e = .returned (.string (joined [a, b, c, d])) ∧ Below w.heap.size w w' := by
  have hc := quad_cells (alloc_last w (.cells #[.string a, .string b, .string c, .string d] T))
  refine (Tryz.strings_Join w.heap.size 0 4 [a, b, c, d] dot _ (fun j x hj => ?_) (by show w.heap.size < (w.heap.push _).size; rw [Array.size_push]; omega) (by show 4 ≤ _; omega) (Nat.le_refl 4) (by rw [← List.size_toArray]; exact hl)).mono fun e w' ⟨he, hb⟩ => ⟨he, (below1 _).trans (hb.mono ?_)⟩
  · rcases j with _ | _ | _ | _ | j
    · cases hj; exact hc.1
    · cases hj; exact hc.2.1
    · cases hj; exact hc.2.2.1
    · cases hj; exact hc.2.2.2
    · cases hj
  · show w.heap.size ≤ (w.heap.push _).size
    rw [Array.size_push]; omega
set_option maxHeartbeats 8000000 in
set_option maxRecDepth 100000 in
theorem format_no (a b c d : ByteArray) (w : World)
  (Q : ∀ V : World, Calls Tryz.prog 37 #[.agg #[.string a, .string b, .string c, .string d]] V fun e w' => e = .returned (.bool false) ∧ Below V.heap.size V w') :
    Calls Tryz.prog 33 #[.agg #[.string a, .string b, .string c, .string d]] w fun en w' => en = .returned (.tuple #[.string ⟨#[]⟩, .int .i64 1]) ∧ Below w.heap.size w w' := by
  have HQ := hide Q
  clear Q
  go_enter Tryz.func33, Tryz.ntmps33
  go_wp2_with (first
    | (go_at_call 37; refine (HQ.out _).mono ?_; rintro en w1 ⟨rfl, hb1⟩))
  refine bodyPost_ret (results_tmp2 rfl _ _ _) rfl ?_
  exact ⟨rfl, ((Below.refl _ _).alloc (Nat.le_refl _) _).trans (hb1.mono (by simp [go_sem]))⟩
set_option maxHeartbeats 8000000 in
set_option maxRecDepth 100000 in
theorem format_yes (a b c d : ByteArray) (w : World)
  (Q : ∀ V : World, Calls Tryz.prog 37 #[.agg #[.string a, .string b, .string c, .string d]] V fun e w' => e = .returned (.bool true) ∧ Below V.heap.size V w')
  (Q2 : ∀ V : World, Calls Tryz.prog 58 #[.agg #[.string a, .string b, .string c, .string d]] V fun e w' => e = .returned (.agg #[.string a, .string b, .string c, .string d]) ∧ Below V.heap.size V w')
  (hl : (joined [a, b, c, d]).size ≤ 140737488355328) :
    Calls Tryz.prog 33 #[.agg #[.string a, .string b, .string c, .string d]] w fun en w' => en = .returned (.tuple #[.string (joined [a, b, c, d]), .int .i64 0]) ∧ Below w.heap.size w w' := by
  have HQ := hide Q
  have HQ2 := hide Q2
  have HL := hide hl
  clear Q Q2 hl
  go_enter Tryz.func33, Tryz.ntmps33
  go_wp2_with (first
    | (go_at_call 37; refine (HQ.out _).mono ?_; rintro en w1 ⟨rfl, hb1⟩; have k1 := kept_block hb1 (by simp [go_sem]) (alloc_last w _); have c1 := quad_cells k1; obtain ⟨c10, c11, c12, c13⟩ := c1; have HB1 := hide hb1; have HK1 := hide k1; clear hb1 k1)
    | (go_at_call 58; refine (HQ2.out _).mono ?_; rintro en w2 ⟨rfl, hb2⟩; have HB2 := hide hb2; clear hb2)
    | (go_at_call 59; refine (join_quad a b c d _ w2 HL.out).mono ?_; rintro en w3 ⟨rfl, hb3⟩; have HB3 := hide hb3; clear hb3))
  refine bodyPost_ret (results_tmp2 rfl _ _ _) rfl ?_
  have e1 : w.heap.size ≤ w1.heap.size := Nat.le_trans (by show w.heap.size ≤ (w.heap.push _).size; rw [Array.size_push]; omega) HB1.out.size
  have t1 : Below w.heap.size w w1 := (below1 _).trans (HB1.out.mono (by show w.heap.size ≤ (w.heap.push _).size; rw [Array.size_push]; omega))
  exact ⟨rfl, (t1.trans (HB2.out.mono e1)).trans (HB3.out.mono (Nat.le_trans e1 HB2.out.size))⟩
end Go.Proofs.YtdmedeaknnldcaaGreatDoor
