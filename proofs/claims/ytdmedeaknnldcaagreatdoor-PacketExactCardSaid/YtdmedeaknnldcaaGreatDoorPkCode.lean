/- Packets: the codes of a source, whatever the text's length: package source's code and the reference's, as functions without memory and without fuel. -/
import Derived.Test.YtdmedeaknnldcaaGreatDoorPkBase
namespace Go.Proofs.YtdmedeaknnldcaaGreatDoor
open Go.RowKit
set_option linter.unusedVariables false
set_option linter.unusedSimpArgs false
set_option linter.unnecessarySimpa false
def okc (u : UInt8) : Bool := (decide (65 ≤ u.toNat) && decide (u.toNat ≤ 90)) || (decide (48 ≤ u.toNat) && decide (u.toNat ≤ 57))
/-- Whether a text is a code. -/
def codeB (s : ByteArray) (lo hi : Int) : Bool := s.data.toList.all okc && (decide (lo ≤ (s.size : Int)) && decide ((s.size : Int) ≤ hi))
theorem big_id {x : Int} (h : -9223372036854775808 ≤ x ∧ x ≤ 9223372036854775807) : i64 x = x := IntWalk.i64_in _ (by omega)
theorem byte_at (s : ByteArray) (i : Nat) (h : i < s.size) : s[i]? = some (s.data.toList[i]'(by simpa using h)) := by
  have h' : i < s.data.size := h
  show (if _ : i < s.size then some _ else none) = _
  rw [dif_pos h]
  rfl
theorem plain_any (N : Nat) (u : UInt8) : B99_d N (u.toNat : Int) = some (okc u) := by
  simp only [B99_d, FSpec.d, B99_s]
  unfold okc
  by_cases h1 : 65 ≤ u.toNat <;> by_cases h2 : u.toNat ≤ 90 <;> by_cases h3 : 48 ≤ u.toNat <;> by_cases h4 : u.toNat ≤ 57 <;>
    simp [h1, h2, h3, h4, show ((65 : Int) ≤ (u.toNat : Int)) ↔ 65 ≤ u.toNat by omega, show ((u.toNat : Int) ≤ 90) ↔ u.toNat ≤ 90 by omega, show ((48 : Int) ≤ (u.toNat : Int)) ↔ 48 ≤ u.toNat by omega, show ((u.toNat : Int) ≤ 57) ↔ u.toNat ≤ 57 by omega] <;> omega
theorem code_loop (N : Nat) (s : ByteArray) (lo hi : Int) (hs : s.size ≤ 9223372036854775807) : ∀ (k i f : Nat), k < f → i + k = s.size →
    (B66_l4 N).L f (s, lo, hi, (s.size : Int), (i : Int)) = some (if (s.data.toList.drop i).all okc = true then .inr (s, lo, hi) else .inl (s, lo, hi, false))
  | 0, i, f, hf, hi2 => by
    obtain ⟨f, rfl⟩ : ∃ f', f = f' + 1 := ⟨f - 1, by omega⟩
    have e : s.data.toList.drop i = [] := List.drop_eq_nil_of_le (by simp; omega)
    rw [e]
    show (B66_l4 N).b _ _ ((B66_l4 N).L f) some = _
    have c : decide ((i : Int) < (s.size : Int)) = false := by rw [decide_eq_false_iff_not]; omega
    simp only [B66_l4, c]
    rfl
  | k + 1, i, f, hf, hi2 => by
    obtain ⟨f, rfl⟩ : ∃ f', f = f' + 1 := ⟨f - 1, by omega⟩
    have hlt : i < s.size := by omega
    have hlt' : i < s.data.toList.length := by simpa using hlt
    have r := code_loop N s lo hi hs k (i + 1) f (by omega) (by omega)
    rw [List.drop_eq_getElem_cons hlt', List.all_cons]
    show (B66_l4 N).b _ _ ((B66_l4 N).L f) some = _
    obtain ⟨Lf, hL⟩ : ∃ Lf, Lf = (B66_l4 N).L f := ⟨_, rfl⟩
    rw [← hL] at r ⊢
    have c1 : decide ((i : Int) < (s.size : Int)) = true := by rw [decide_eq_true_iff]; omega
    have c2 : (0 : Int) ≤ (i : Int) := by omega
    have e1 : i64 ((i : Int) + 1) = ((i + 1 : Nat) : Int) := by rw [big_id (by omega)]; omega
    cases hc : okc (s.data.toList[i]'hlt') with
    | true =>
      simp only [B66_l4, c1, c2, if_true, Int.toNat_natCast, byte_at s i hlt, plain_any, hc, Bool.not_true, e1, Bool.true_and]
      exact r
    | false =>
      simp only [B66_l4, c1, c2, if_true, Int.toNat_natCast, byte_at s i hlt, plain_any, hc, Bool.not_false, Bool.false_and]
      rfl
theorem code_base (s : ByteArray) (lo hi : Int) (hs : s.size ≤ 9223372036854775807) : B66_d (s.size + 1) (s, lo, hi) = some (codeB s lo hi) := by
  have r := code_loop (s.size + 1) s lo hi hs s.size 0 (s.size + 1) (by omega) (by omega)
  replace r : (B66_l4 (s.size + 1)).L (s.size + 1) (s, lo, hi, (s.size : Int), 0) = _ := r
  rw [List.drop_zero] at r
  unfold codeB
  cases ha : s.data.toList.all okc with
  | false =>
    rw [ha] at r
    replace r : (B66_l4 (s.size + 1)).L (s.size + 1) (s, lo, hi, (s.size : Int), 0) = some (.inl (s, lo, hi, false)) := r
    simp only [B66_d, FSpec.d, B66_s, B66_d4, r, Bool.false_and]
  | true =>
    rw [ha] at r
    replace r : (B66_l4 (s.size + 1)).L (s.size + 1) (s, lo, hi, (s.size : Int), 0) = some (.inr (s, lo, hi)) := r
    by_cases h : lo ≤ (s.size : Int)
    · have c : decide ((s.size : Int) ≥ lo) = true := decide_eq_true h
      simp only [B66_d, FSpec.d, B66_s, B66_d4, r, c, Bool.true_and, decide_eq_true h]
    · have c : decide ((s.size : Int) ≥ lo) = false := decide_eq_false h
      simp only [B66_d, FSpec.d, B66_s, B66_d4, r, c, Bool.true_and, decide_eq_false h, Bool.false_and]
theorem rcode_loop (N : Nat) (s : ByteArray) (lo hi : Int) (hs : s.size ≤ 9223372036854775807) : ∀ (k i f : Nat), k < f → i + k = s.size →
    (B69_l4 N).L f (s, lo, hi, (i : Int)) = some (if (s.data.toList.drop i).all okc = true then .inr (s, lo, hi) else .inl (s, lo, hi, false))
  | 0, i, f, hf, hi2 => by
    obtain ⟨f, rfl⟩ : ∃ f', f = f' + 1 := ⟨f - 1, by omega⟩
    have e : s.data.toList.drop i = [] := List.drop_eq_nil_of_le (by simp; omega)
    rw [e]
    show (B69_l4 N).b _ _ ((B69_l4 N).L f) some = _
    have c : decide ((i : Int) < (s.size : Int)) = false := by rw [decide_eq_false_iff_not]; omega
    simp only [B69_l4, c]
    rfl
  | k + 1, i, f, hf, hi2 => by
    obtain ⟨f, rfl⟩ : ∃ f', f = f' + 1 := ⟨f - 1, by omega⟩
    have hlt : i < s.size := by omega
    have hlt' : i < s.data.toList.length := by simpa using hlt
    have r := rcode_loop N s lo hi hs k (i + 1) f (by omega) (by omega)
    rw [List.drop_eq_getElem_cons hlt', List.all_cons]
    show (B69_l4 N).b _ _ ((B69_l4 N).L f) some = _
    obtain ⟨Lf, hL⟩ : ∃ Lf, Lf = (B69_l4 N).L f := ⟨_, rfl⟩
    rw [← hL] at r ⊢
    have c1 : decide ((i : Int) < (s.size : Int)) = true := by rw [decide_eq_true_iff]; omega
    have c2 : (0 : Int) ≤ (i : Int) := by omega
    have e1 : i64 ((i : Int) + 1) = ((i + 1 : Nat) : Int) := by rw [big_id (by omega)]; omega
    have hb := byte_at s i hlt
    obtain ⟨u, hu⟩ : ∃ u, u = s.data.toList[i]'hlt' := ⟨_, rfl⟩
    rw [← hu] at hb ⊢
    have hc : okc u = ((decide (65 ≤ u.toNat) && decide (u.toNat ≤ 90)) || (decide (48 ≤ u.toNat) && decide (u.toNat ≤ 57))) := rfl
    have q1 : decide ((u.toNat : Int) ≥ 65) = decide (65 ≤ u.toNat) := decide_eq_decide.2 (by omega)
    have q2 : decide ((u.toNat : Int) ≤ 90) = decide (u.toNat ≤ 90) := decide_eq_decide.2 (by omega)
    have q3 : decide ((u.toNat : Int) ≥ 48) = decide (48 ≤ u.toNat) := decide_eq_decide.2 (by omega)
    have q4 : decide ((u.toNat : Int) ≤ 57) = decide (u.toNat ≤ 57) := decide_eq_decide.2 (by omega)
    simp only [B69_l4, c1, c2, if_true, Int.toNat_natCast, hb, q1, q2, q3, q4, e1, hc]
    cases decide (65 ≤ u.toNat) <;> cases decide (u.toNat ≤ 90) <;> cases decide (48 ≤ u.toNat) <;> cases decide (u.toNat ≤ 57) <;> first | exact r | rfl
theorem rcode_base (s : ByteArray) (lo hi : Int) (hs : s.size ≤ 9223372036854775807) : B69_d (s.size + 1) (s, lo, hi) = some (codeB s lo hi) := by
  have r := rcode_loop (s.size + 1) s lo hi hs s.size 0 (s.size + 1) (by omega) (by omega)
  replace r : (B69_l4 (s.size + 1)).L (s.size + 1) (s, lo, hi, 0) = _ := r
  rw [List.drop_zero] at r
  unfold codeB
  cases ha : s.data.toList.all okc with
  | false =>
    rw [ha] at r
    replace r : (B69_l4 (s.size + 1)).L (s.size + 1) (s, lo, hi, 0) = some (.inl (s, lo, hi, false)) := r
    simp only [B69_d, FSpec.d, B69_s, B69_d4, r, Bool.false_and]
  | true =>
    rw [ha] at r
    replace r : (B69_l4 (s.size + 1)).L (s.size + 1) (s, lo, hi, 0) = some (.inr (s, lo, hi)) := r
    by_cases h : lo ≤ (s.size : Int)
    · have c : decide ((s.size : Int) ≥ lo) = true := decide_eq_true h
      simp only [B69_d, FSpec.d, B69_s, B69_d4, r, c, Bool.true_and, decide_eq_true h]
    · have c : decide ((s.size : Int) ≥ lo) = false := decide_eq_false h
      simp only [B69_d, FSpec.d, B69_s, B69_d4, r, c, Bool.true_and, decide_eq_false h, Bool.false_and]
/-! ### source.code (function 66), the reference's code (function 69) -/
noncomputable def F66_s (N : Nat) : FSpec := { B66_s N with t := fun (x : ByteArray × Int × Int) α k => if x.1.size ≤ 9223372036854775807 then k (codeB x.1 x.2.1 x.2.2) else none }
noncomputable abbrev F66_d (N : Nat) (x : ByteArray × Int × Int) : Option Bool := (F66_s N).d x
noncomputable def F66_e (N : Nat) : Ent Tryz.prog where
  f := 66
  F := F66_s N
  ok := fun (x : ByteArray × Int × Int) y h => by
    have h : (if x.1.size ≤ 9223372036854775807 then some (codeB x.1 x.2.1 x.2.2) else none) = some y := h
    split at h
    · rename_i hx
      cases h
      exact (B66_e (x.1.size + 1)).ok x _ (code_base x.1 x.2.1 x.2.2 hx)
    · cases h
  hp := B66_pat 0
  hsl := fun y => rfl
noncomputable def F69_s (N : Nat) : FSpec := { B69_s N with t := fun (x : ByteArray × Int × Int) α k => if x.1.size ≤ 9223372036854775807 then k (codeB x.1 x.2.1 x.2.2) else none }
noncomputable abbrev F69_d (N : Nat) (x : ByteArray × Int × Int) : Option Bool := (F69_s N).d x
noncomputable def F69_e (N : Nat) : Ent Tryz.prog where
  f := 69
  F := F69_s N
  ok := fun (x : ByteArray × Int × Int) y h => by
    have h : (if x.1.size ≤ 9223372036854775807 then some (codeB x.1 x.2.1 x.2.2) else none) = some y := h
    split at h
    · rename_i hx
      cases h
      exact (B69_e (x.1.size + 1)).ok x _ (rcode_base x.1 x.2.1 x.2.2 hx)
    · cases h
  hp := B69_pat 0
  hsl := fun y => rfl
end Go.Proofs.YtdmedeaknnldcaaGreatDoor
