/- Several texts as one (written by pack.py). -/
import Derived.Test.YthdgnfcbehcplaaGreatDoorCaE
import Derived.Test.YthdgnfcbehcplaaGreatDoorProg
import Derived.ProofKit
import Derived.OpenShut
import Derived.Deep.Slices
import Derived.ChangeSame
import Derived.Test.YthdgnfcbehcplaaGreatDoorRows
import Derived.LaidMore
import Derived.Lay
import Derived.LaidLaws
import Derived.MakeChecks
import Derived.Stop.LaidErr
import Derived.Lib.LaidTab
set_option linter.unusedVariables false
set_option linter.unusedSimpArgs false
set_option linter.unnecessarySimpa false
namespace Go.Proofs.YthdgnfcbehcplaaGreatDoor
section
abbrev mxT : Int := 18014398509481984
theorem zeq {e : RT0} (h : Jf e) : (EvG e /\ Jk 600 [zu e] = some true /\ zcY 600 e = some true) \/ (¬ EvG e /\ Jk 600 [zu e] = some false /\ zcY 600 e = some false) := by
 obtain ⟨P, h1, h2⟩ := h
 have a1 := zn9 (e := e) (P := P) ⟨h1, h2⟩
 have a2 := zhH (e := e) (P := P) ⟨h1, h2⟩
 have a3 := zl3 (e := e) (P := P) ⟨h1, h2⟩
 cases hb : evB e P with
 | true =>
  rw [hb] at a1 a2 a3
  exact .inl ⟨⟨a1, a2, P, h1, h2⟩, a1, a3⟩
 | false =>
  rw [hb] at a1 a2 a3
  exact .inr ⟨λ h => (by have := h.rv; rw [a1] at this; cases this), a1, a3⟩
theorem zig (b : ByteArray) : (b.toList == nob.toList) = true ↔ b = nob := by
 rw [<- beq_toListBytes, ze9]
theorem zx3 {b : ByteArray} (h : b.size <= 9223372036854775807) : zgo 600 b = some (zcV b) := if_pos h
theorem zx4 {b : ByteArray} (h : b.size <= 9223372036854775807) : zgp 600 b = some (zcV b) := if_pos h
open Classical in
theorem zt0 {v : RT7} (hv : WfV v) (n i : Nat) : zr5 600 (v, (i : Int), (n : Int)) = some (decide (VG mxT n i v)) := by
 obtain ⟨k, t, b, to, e⟩ := v
 have hs : zgo 600 b = some (zcV b) := zx3 hv.sz
 have no : ∀ {P : Prop}, ¬ P -> some false = some (decide P) := λ h => by rw [decide_eq_false h]
 have yes : ∀ {P : Prop}, P -> some true = some (decide P) := λ h => by rw [decide_eq_true h]
 simp only [zr5, FSpec.d, zr6]
 by_cases k1 : k < 1
 ·simp only [k1, decide_true]
  exact no λ h => by have := h.kd.lt; simp only [kdV] at this; omega
 by_cases k2 : k > 6
 ·simp only [k1, k2, decide_true, decide_false]
  exact no λ h => by have := h.kd.lt; simp only [kdV] at this; omega
 by_cases t1 : t < 0
 ·simp only [k1, k2, t1, decide_true, decide_false]
  exact no λ h => by have := h.at0; simp only [atV] at this; omega
 by_cases t2 : t > 18014398509481984
 ·simp only [k1, k2, t1, t2, decide_true, decide_false]
  exact no λ h => by have : t <= 18014398509481984 := h.atT; omega
 simp only [k1, k2, t1, t2, decide_false]
 rcases zeq hv.pk with ⟨hg, -, he⟩ | ⟨hg, -, he⟩
 case inr =>
  replace he : zcY 600 (zm (k, t, b, to, e)) = some false := he
  simp only [he, Bool.not_false]
  exact no λ h => hg h.ev
 replace he : zcY 600 (zm (k, t, b, to, e)) = some true := he
 have hk : Kd6 k := by unfold Kd6; omega
 have q7 : 0 <= k /\ k < 7 := by omega
 have tc := zpw hk
 simp only [he, Bool.not_true, q7, and_self, if_true, tc]
 have fin : ∀ (P : Prop), (VG mxT n i (k, t, b, to, e) ↔ P /\ (k ≠ 5 -> to = 0) /\ (k = 5 -> 0 <= to /\ to < n /\ to ≠ i)) -> P -> (match (k == 5) with | true => (match decide (to >= 0) with | true => (match decide (to < (n : Int)) with | true => some (to != (i : Int)) | false => some false) | false => some false) | false => some (to == 0)) = some (decide (VG mxT n i (k, t, b, to, e))) := λ P hP h => by
  by_cases k5 : k = 5
  ·have z : (k == 5) = true := by simp [k5]
   simp only [z]
   by_cases o1 : to >= 0
   ·by_cases o2 : to < (n : Int)
    ·simp only [o1, o2, decide_true]
     by_cases o3 : to = (i : Int)
     ·have : (to != (i : Int)) = false := by simp [o3]
      rw [this]
      exact no λ h => ((hP.1 h).2.2 k5).2.2 o3
     ·have : (to != (i : Int)) = true := by simp [o3]
      rw [this]
      exact yes (hP.2 ⟨h, λ h => absurd k5 h, λ _ => ⟨o1, o2, o3⟩⟩)
    ·simp only [o1, o2, decide_true, decide_false]
     exact no λ h => o2 ((hP.1 h).2.2 k5).2.1
   ·simp only [o1, decide_false]
    exact no λ h => o1 ((hP.1 h).2.2 k5).1
  ·have z : (k == 5) = false := by simp [k5]
   simp only [z]
   by_cases o1 : to = 0
   ·have : (to == 0) = true := by simp [o1]
    rw [this]
    exact yes (hP.2 ⟨h, λ _ => o1, λ h => absurd h k5⟩)
   ·have : (to == 0) = false := by simp [o1]
    rw [this]
    exact no λ h => o1 ((hP.1 h).2.1 k5)
 have base : ∀ (P : Prop), ((k = 1 \/ k = 2) -> b = nob) -> (¬ (k = 1 \/ k = 2) -> Per b) -> (VG mxT n i (k, t, b, to, e) ↔ True /\ (k ≠ 5 -> to = 0) /\ (k = 5 -> 0 <= to /\ to < n /\ to ≠ i)) := λ P p1 p2 => ⟨λ h => ⟨trivial, h.in1, h.in2⟩, λ h => ⟨hk, Int.not_lt.1 t1, Int.not_lt.1 t2, p1, p2, h.2.1, h.2.2, hg⟩⟩
 cases hc : (k == 1 || k == 2) with
 | true =>
  have hc' : k = 1 \/ k = 2 := by simpa using hc
  cases hb : b.toList == nob.toList with
  | false =>
   have hb' : (b.toList == (⟨#[]⟩ : ByteArray).toList) = false := hb
   simp only [hb', Bool.not_false]
   exact no λ h => by have := (zig b).2 (h.by1 hc'); rw [hb] at this; cases this
  | true =>
   have hb' : (b.toList == (⟨#[]⟩ : ByteArray).toList) = true := hb
   simp only [hb', Bool.not_true]
   exact fin True (base True (λ _ => (zig b).1 hb) (λ h => absurd hc' h)) trivial
 | false =>
  have hc' : ¬ (k = 1 \/ k = 2) := by simpa using hc
  simp only [Bool.not_false, hs]
  cases hp : zcV b with
  | false =>
   simp only [Bool.not_false]
   exact no λ h => by have := h.by2 hc'; unfold Per at this; simp only [byV] at this; rw [hp] at this; cases this
  | true =>
   simp only [Bool.not_true]
   exact fin True (base True (λ h => absurd h hc') (λ _ => hp)) trivial
def VP (n i : Nat) (x : List RT7) (k : Nat) : Prop := ∃ h : k < x.length, VG mxT n i x[k] /\ (k = 0 -> kdV x[k] = 1) /\ ∀ j (h' : j < x.length), k = j + 1 -> Stp x[j] x[k]
theorem zlZ (n i : Nat) (x : List RT7) : XG mxT n i 100 x ↔ (x ≠ [] /\ x.length <= 100 /\ ∀ k, k < x.length -> VP n i x k) := by
 constructor
 ·intro h
  exact ⟨h.ne, h.le, λ k hk => ⟨hk, h.vs k hk, λ e => by subst e; exact h.hd hk, λ j hj e => by subst e; exact h.st j hk⟩⟩
 ·rintro ⟨h1, h2, h3⟩
  refine ⟨h1, λ h => ?_, λ k hk => ?_, λ k hk => ?_, h2⟩
  ·obtain ⟨_, _, h5, _⟩ := h3 0 h
   exact h5 rfl
  ·obtain ⟨_, h4, _⟩ := h3 k hk
   exact h4
  ·obtain ⟨_, _, _, h6⟩ := h3 (k + 1) hk
   exact h6 k (by omega) rfl
theorem zog {v : RT7} (hv : WfV v) (n i : Nat) (hk : Kd6 (kdV v)) (k : Int) (X : List (List AV)) : (((kdV v = 1 \/ kdV v = 2) -> byV v = nob) /\ (¬ (kdV v = 1 \/ kdV v = 2) -> Per (byV v)) /\ zb0 600 ((i : Int), (n : Int), k, X, v) = some (.inr ((i : Int), (n : Int), k, X, v))) \/ (¬ (((kdV v = 1 \/ kdV v = 2) -> byV v = nob) /\ (¬ (kdV v = 1 \/ kdV v = 2) -> Per (byV v))) /\ zb0 600 ((i : Int), (n : Int), k, X, v) = some (.inl ((i : Int), (n : Int), false, k, X, v))) := by
 obtain ⟨k1, a1, b1, i1, e1⟩ := v
 have hs : zgp 600 b1 = some (zcV b1) := zx4 hv.sz
 have hu : ∀ y, (ZG 600).b ((i : Int), (n : Int), k, X, (k1, a1, b1, i1, e1)) _ ((ZG 600).L 599) some = y -> zb0 600 ((i : Int), (n : Int), k, X, (k1, a1, b1, i1, e1)) = y := λ y h => h
 simp only [kdV, byV] at hk |-
 by_cases hc : k1 = 1 \/ k1 = 2
 ·cases hb : b1.toList == nob.toList with
  | true =>
   refine .inl ⟨λ _ => (zig b1).1 hb, λ h => absurd hc h, hu _ ?_⟩
   have hb' : (b1.toList == (⟨#[]⟩ : ByteArray).toList) = true := hb
   rcases hc with rfl | rfl
   ·have z : ((1 : Int) == 1) = true := by decide
    simp only [ZG]
    simp only [z, hb', Bool.not_true]
   ·have z : ((2 : Int) == 1) = false := by decide
    have z2 : ((2 : Int) == 2) = true := by decide
    simp only [ZG]
    simp only [z, z2, hb', Bool.not_true]
  | false =>
   refine .inr ⟨λ h => (by have := (zig b1).2 (h.1 hc); rw [hb] at this; cases this), hu _ ?_⟩
   have hb' : (b1.toList == (⟨#[]⟩ : ByteArray).toList) = false := hb
   rcases hc with rfl | rfl
   ·have z : ((1 : Int) == 1) = true := by decide
    simp only [ZG]
    simp only [z, hb', Bool.not_false]
   ·have z : ((2 : Int) == 1) = false := by decide
    have z2 : ((2 : Int) == 2) = true := by decide
    simp only [ZG]
    simp only [z, z2, hb', Bool.not_false]
 ·have z : (k1 == 1) = false := by simp; omega
  have z2 : (k1 == 2) = false := by simp; omega
  cases hp : zcV b1 with
  | true =>
   refine .inl ⟨λ h => absurd h hc, λ _ => hp, hu _ ?_⟩
   simp only [ZG]
   simp only [z, z2, Bool.not_false, hs, hp, Bool.not_true]
  | false =>
   refine .inr ⟨λ h => (by have := h.2 hc; unfold Per at this; rw [hp] at this; cases this), hu _ ?_⟩
   simp only [ZG]
   simp only [z, z2, Bool.not_false, hs, hp]
noncomputable def vrT (V : RT7) (X : List (List AV)) (i n k : Int) (Lf : (Int × Int × Int × List (List AV)) -> Option ((Bool × (List (List AV))) ⊕ ((List (List AV))))) : Option ((Bool × (List (List AV))) ⊕ ((List (List AV)))) :=
 (match (k == 0) with
   | true => (match (V.1 != 1) with | true => some (.inl (false, X)) | false => Lf (i, n, i64 (k + 1), X))
   | false => (if 0 <= (i64 (k - 1)) then (match X[(i64 (k - 1)).toNat]? with
    | some c54 => (match zgs c54 with
     | some e55 => (match (decide (V.2.1 < e55.2.1)) with
      | true => some (.inl (false, X))
      | false => (match zgq 600 (V, e55) with
       | some y56 => (match (!y56) with
        | true => some (.inl (false, X))
        | false => (match ze1 600 V.1 with
         | some y57 => (match y57 with
          | true => (match zaH 600 ((zm e55), (zm V)) with
           | some y58 => (match (!y58) with
            | true => some (.inl (false, X))
            | false => Lf (i, n, i64 (k + 1), X))
           | none => none)
          | false => Lf (i, n, i64 (k + 1), X))
         | none => none))
       | none => none))
     | none => none)
    | none => none) else none))
theorem zyx {x : List RT7} (hW : ∀ v ∈ x, WfV v) (hx : x.length <= 100) (i n : Int) {k : Nat} (hk : k < x.length) (Lf : (Int × Int × Int × List (List AV)) -> Option ((Bool × (List (List AV))) ⊕ ((List (List AV))))) :
  (((k = 0 -> kdV x[k] = 1) /\ ∀ j (h' : j < x.length), k = j + 1 -> Stp x[j] x[k]) /\ vrT x[k] (x.map zp) i n (k : Int) Lf = Lf (i, n, ((k + 1 : Nat) : Int), x.map zp)) \/ (¬ ((k = 0 -> kdV x[k] = 1) /\ ∀ j (h' : j < x.length), k = j + 1 -> Stp x[j] x[k]) /\ vrT x[k] (x.map zp) i n (k : Int) Lf = some (.inl (false, x.map zp))) := by
 have n1 := zi (k := k) (by omega)
 unfold vrT
 cases k with
 | zero =>
  have d6 : (((0 : Nat) : Int) == 0) = true := by decide
  by_cases h1 : x[0].1 = 1
  ·have d7 : (x[0].1 != 1) = false := by simp [h1]
   simp only [d6, d7, n1]
   exact .inl ⟨⟨λ _ => h1, λ j _ e => by omega⟩, trivial⟩
  ·have d7 : (x[0].1 != 1) = true := by simp [h1]
   simp only [d6, d7]
   exact .inr ⟨λ h => h1 (h.1 trivial), trivial⟩
 | succ k' =>
  have d6 : (((k' + 1 : Nat) : Int) == 0) = false := by simp; omega
  have d7 : i64 (((k' + 1 : Nat) : Int) - 1) = (k' : Int) := by rw [zG (by omega)]; omega
  have h0' : 0 <= (k' : Int) := by omega
  have d9 := ztd 600 x[k' + 1] x[k']
  have d10 := zfu 600 x[k' + 1].1
  have bad : ¬ Stp x[k'] x[k' + 1] -> ¬ ((k' + 1 = 0 -> kdV x[k' + 1] = 1) /\ ∀ j (h' : j < x.length), k' + 1 = j + 1 -> Stp x[j] x[k' + 1]) := λ h g => h (g.2 k' (by omega) rfl)
  have good : Stp x[k'] x[k' + 1] -> ((k' + 1 = 0 -> kdV x[k' + 1] = 1) /\ ∀ j (h' : j < x.length), k' + 1 = j + 1 -> Stp x[j] x[k' + 1]) := λ h => ⟨λ e => by omega, λ j hj e => by
   obtain rfl : k' = j := by omega
   exact h⟩
  simp only [d6, d7, h0', if_true, Int.toNat_natCast, zcA x k' (by omega), rd7]
  by_cases t1 : x[k' + 1].2.1 < x[k'].2.1
  ·simp only [t1, decide_true]
   exact .inr ⟨bad λ h => (by have := h.1; simp only [atV] at this; omega), trivial⟩
  simp only [t1, decide_false, d9]
  cases hf : ztc (kdV x[k' + 1]) (kdV x[k']) with
  | false =>
   simp only [Bool.not_false]
   exact .inr ⟨bad λ h => (by have := h.2.1; rw [hf] at this; cases this), trivial⟩
  | true =>
   simp only [Bool.not_true, d10]
   cases hkp : jF x[k' + 1].1 with
   | false =>
    simp only [n1]
    exact .inl ⟨good ⟨by simp only [atV]; omega, hf, λ h => by rw [show jF (kdV x[k' + 1]) = jF x[k' + 1].1 from rfl, hkp] at h; cases h⟩, trivial⟩
   | true =>
    obtain ⟨b, q1, q2⟩ := zcJ (evV x[k']) (evV x[k' + 1]) (hW _ (List.getElem_mem _)).pk (hW _ (List.getElem_mem _)).pk
    replace q1 : zaH 600 (zm x[k'], zm x[k' + 1]) = some b := q1
    simp only [q1]
    cases b with
    | false =>
     simp only [Bool.not_false]
     exact .inr ⟨bad λ h => (by have := q2.2 (h.2.2 hkp); cases this), trivial⟩
    | true =>
     simp only [Bool.not_true, n1]
     exact .inl ⟨good ⟨by simp only [atV]; omega, hf, λ _ => q2.1 rfl⟩, trivial⟩
theorem zui {x : List RT7} (hW : ∀ v ∈ x, WfV v) (hx : x.length <= 100) (n i : Nat) {k : Nat} (hk : k < x.length) (f : Nat) : (VP n i x k /\ (zF 600).L (f + 1) ((i : Int), (n : Int), (k : Int), x.map zp) = (zF 600).L f ((i : Int), (n : Int), ((k + 1 : Nat) : Int), x.map zp)) \/ (¬ VP n i x k /\ (zF 600).L (f + 1) ((i : Int), (n : Int), (k : Int), x.map zp) = some (.inl (false, x.map zp))) := by
 have hv := hW x[k] (List.getElem_mem _)
 obtain ⟨Lf, hLf⟩ : ∃ Lf, Lf = (zF 600).L f := ⟨_, rfl⟩
 have hu : ∀ y, (zF 600).b ((i : Int), (n : Int), (k : Int), x.map zp) _ Lf some = y -> (zF 600).L (f + 1) ((i : Int), (n : Int), (k : Int), x.map zp) = y := λ y h => by rw [hLf] at h; exact h
 rw [<- hLf]
 have e2 : decide ((k : Int) < (x.length : Int)) = true := dT (by omega)
 have h0 : 0 <= (k : Int) := by omega
 have n1 := zi (k := k) (by omega)
 obtain ⟨V, hV⟩ : ∃ V, V = x[k] := ⟨_, rfl⟩
 have hg : (x.map zp)[k]? = some (zp V) := by rw [hV]; exact zcA x k hk
 have vg : VP n i x k -> VG mxT n i V := λ ⟨_, h, _⟩ => by rw [hV]; exact h
 rw [<- hV] at hv
 by_cases k1 : V.1 < 1
 ·refine .inr ⟨λ h => by have := (vg h).kd.lt; simp only [kdV] at this; omega, hu _ ?_⟩
  simp only [zF]
  simp only [List.length_map, e2, h0, if_true, Int.toNat_natCast, hg, rd7, k1, decide_true]
 by_cases k2 : V.1 > 6
 ·refine .inr ⟨λ h => by have := (vg h).kd.lt; simp only [kdV] at this; omega, hu _ ?_⟩
  simp only [zF]
  simp only [List.length_map, e2, h0, if_true, Int.toNat_natCast, hg, rd7, k1, k2, decide_true, decide_false]
 by_cases t1 : V.2.1 < 0
 ·refine .inr ⟨λ h => by have := (vg h).at0; simp only [atV] at this; omega, hu _ ?_⟩
  simp only [zF]
  simp only [List.length_map, e2, h0, if_true, Int.toNat_natCast, hg, rd7, k1, k2, t1, decide_true, decide_false]
 by_cases t2 : V.2.1 > 18014398509481984
 ·refine .inr ⟨λ h => by have : V.2.1 <= 18014398509481984 := (vg h).atT; omega, hu _ ?_⟩
  simp only [zF]
  simp only [List.length_map, e2, h0, if_true, Int.toNat_natCast, hg, rd7, k1, k2, t1, t2, decide_true, decide_false]
 rcases zeq hv.pk with ⟨hE, he, -⟩ | ⟨hE, he, -⟩
 case inr =>
  replace he : Jk 600 [zu (zm V)] = some false := he
  refine .inr ⟨λ h => hE (vg h).ev, hu _ ?_⟩
  simp only [zF]
  simp only [List.length_map, e2, h0, if_true, Int.toNat_natCast, hg, rd7, k1, k2, t1, t2, decide_false, he, Bool.not_false]
 replace he : Jk 600 [zu (zm V)] = some true := he
 have hkd : Kd6 (kdV V) := by unfold Kd6; simp only [kdV]; omega
 rcases zog hv n i hkd (k : Int) (x.map zp) with ⟨b1, b2, hp⟩ | ⟨hb, hp⟩
 case inr =>
  refine .inr ⟨λ h => hb ⟨(vg h).by1, (vg h).by2⟩, hu _ ?_⟩
  simp only [zF]
  simp only [List.length_map, e2, h0, if_true, Int.toNat_natCast, hg, rd7, k1, k2, t1, t2, decide_false, he, Bool.not_true, hp]
 -- the entry that it is merged into
 have red : (¬ ((kdV V ≠ 5 -> inV V = 0) /\ (kdV V = 5 -> 0 <= inV V /\ inV V < n /\ inV V ≠ i)) /\ (zF 600).b ((i : Int), (n : Int), (k : Int), x.map zp) _ Lf some = some (.inl (false, x.map zp))) \/ (((kdV V ≠ 5 -> inV V = 0) /\ (kdV V = 5 -> 0 <= inV V /\ inV V < n /\ inV V ≠ i)) /\ (zF 600).b ((i : Int), (n : Int), (k : Int), x.map zp) _ Lf some = vrT V (x.map zp) (i : Int) (n : Int) (k : Int) Lf) := by
  by_cases k5 : V.1 = 5
  ·have d1 : (V.1 != 5) = false := by simp [k5]
   have d2 : (V.1 == 5) = true := by simp [k5]
   by_cases p1 : V.2.2.2.1 < 0
   ·refine .inl ⟨λ h => by have := (h.2 k5).1; simp only [inV] at this; omega, ?_⟩
    simp only [zF]
    simp only [List.length_map, e2, h0, if_true, Int.toNat_natCast, hg, rd7, k1, k2, t1, t2, decide_false, he, Bool.not_true, hp, d1, d2, p1, decide_true]
   by_cases p2 : V.2.2.2.1 >= (n : Int)
   ·refine .inl ⟨λ h => by have := (h.2 k5).2.1; simp only [inV] at this; omega, ?_⟩
    simp only [zF]
    simp only [List.length_map, e2, h0, if_true, Int.toNat_natCast, hg, rd7, k1, k2, t1, t2, decide_false, he, Bool.not_true, hp, d1, d2, p1, p2, decide_true]
   by_cases p3 : V.2.2.2.1 = (i : Int)
   ·have d3 : (V.2.2.2.1 == (i : Int)) = true := by simp [p3]
    refine .inl ⟨λ h => (h.2 k5).2.2 p3, ?_⟩
    simp only [zF]
    simp only [List.length_map, e2, h0, if_true, Int.toNat_natCast, hg, rd7, k1, k2, t1, t2, decide_false, he, Bool.not_true, hp, d1, d2, p1, p2, d3]
   ·have d3 : (V.2.2.2.1 == (i : Int)) = false := by simp [p3]
    refine .inr ⟨⟨λ h => absurd k5 h, λ _ => ⟨Int.not_lt.1 p1, Int.not_le.1 p2, p3⟩⟩, ?_⟩
    simp only [zF]
    simp only [List.length_map, e2, h0, if_true, Int.toNat_natCast, hg, rd7, k1, k2, t1, t2, decide_false, he, Bool.not_true, hp, d1, d2, p1, p2, d3]
    rfl
  ·have d1 : (V.1 != 5) = true := by simp [k5]
   have d2 : (V.1 == 5) = false := by simp [k5]
   by_cases p1 : V.2.2.2.1 = 0
   ·have d3 : (V.2.2.2.1 != 0) = false := by simp [p1]
    refine .inr ⟨⟨λ _ => p1, λ h => absurd h k5⟩, ?_⟩
    simp only [zF]
    simp only [List.length_map, e2, h0, if_true, Int.toNat_natCast, hg, rd7, k1, k2, t1, t2, decide_false, he, Bool.not_true, hp, d1, d2, d3]
    rfl
   ·have d3 : (V.2.2.2.1 != 0) = true := by simp [p1]
    refine .inl ⟨λ h => p1 (h.1 k5), ?_⟩
    simp only [zF]
    simp only [List.length_map, e2, h0, if_true, Int.toNat_natCast, hg, rd7, k1, k2, t1, t2, decide_false, he, Bool.not_true, hp, d1, d3]
 rcases red with ⟨r1, r2⟩ | ⟨r1, r2⟩
 ·exact .inr ⟨λ h => r1 ⟨(vg h).in1, (vg h).in2⟩, hu _ r2⟩
 ·have vgV : VG mxT n i V := ⟨hkd, Int.not_lt.1 t1, Int.not_lt.1 t2, b1, b2, r1.1, r1.2, hE⟩
  rw [hV] at r2 vgV
  rcases zyx hW hx (i : Int) (n : Int) hk Lf with ⟨q1, q2⟩ | ⟨q1, q2⟩
  ·exact .inl ⟨⟨hk, vgV, q1⟩, hu _ (r2.trans q2)⟩
  ·exact .inr ⟨λ ⟨_, _, h⟩ => q1 h, hu _ (r2.trans q2)⟩
end
section
open Classical
def All (p : Nat -> Prop) (k n : Nat) : Prop := ∀ j, k <= j -> j < n -> p j
theorem All.nil (p : Nat -> Prop) (n : Nat) : All p n n := λ j h1 h2 => by omega
theorem All.step {p : Nat -> Prop} {k n : Nat} (h : p k) : All p k n ↔ All p (k + 1) n :=
 ⟨λ a j h1 h2 => a j (by omega) h2, λ a j h1 h2 => by
  rcases Nat.eq_or_lt_of_le h1 with rfl | h1
  ·exact h
  ·exact a j h1 h2⟩
theorem All.no {p : Nat -> Prop} {k n : Nat} (hk : k < n) (h : ¬ p k) : ¬ All p k n := λ a => h (a k (Nat.le_refl _) hk)
theorem All.ite {p : Nat -> Prop} {k n : Nat} (h : p k) {α : Type} (a b : α) : (if All p (k + 1) n then a else b) = if All p k n then a else b := by
 by_cases g : All p k n
 ·rw [if_pos g, if_pos ((All.step h).1 g)]
 ·rw [if_neg g, if_neg λ q => g ((All.step h).2 q)]
theorem zuh {x : List RT7} (hW : ∀ v ∈ x, WfV v) (hx : x.length <= 100) (n i : Nat) : ∀ (d k f : Nat), k + d = x.length -> d < f -> (zF 600).L f ((i : Int), (n : Int), (k : Int), x.map zp) = if All (VP n i x) k x.length then some (.inr (x.map zp)) else some (.inl (false, x.map zp)) := by
 intro d
 induction d with
 | zero =>
  intro k f hk hf
  obtain ⟨f, rfl⟩ := pS hf
  obtain rfl : k = x.length := by omega
  rw [if_pos (All.nil _ _)]
  show (zF 600).b _ _ ((zF 600).L f) some = _
  have e2 : decide ((x.length : Int) < (x.length : Int)) = false := dF (by omega)
  simp only [zF]
  simp only [List.length_map, e2]
 | succ d ih =>
  intro k f hk hf
  obtain ⟨f, rfl⟩ := pS hf
  have hkl : k < x.length := by omega
  rcases zui hW hx n i hkl f with ⟨h1, h2⟩ | ⟨h1, h2⟩
  ·rw [h2, ih (k + 1) f (by omega) (by omega), All.ite h1]
  ·rw [h2, if_neg (All.no hkl h1)]
theorem zBo {x : List RT7} (hW : ∀ v ∈ x, WfV v) (hx : x.length <= 100) (n i : Nat) : zlk 600 (x.map zp, (i : Int), (n : Int)) = some (decide (XG mxT n i 100 x)) := by
 have h1 : (zF 600).L 600 ((i : Int), (n : Int), 0, x.map zp) = _ := zuh hW hx n i x.length 0 600 (by omega) (by omega)
 have hd : decide (XG mxT n i 100 x) = decide (x ≠ [] /\ x.length <= 100 /\ ∀ k, k < x.length -> VP n i x k) := by simp only [zlZ]
 rw [hd]
 simp only [zlk, FSpec.d, znP, zll, h1]
 by_cases ha : All (VP n i x) 0 x.length
 ·rw [if_pos ha]
  have e2 : decide ((x.length : Int) <= 100) = true := dT (by omega)
  have e3 : ∀ k, k < x.length -> VP n i x k := λ k hk => ha k (Nat.zero_le _) hk
  cases x with
  | nil => rfl
  | cons a x =>
   have e1 : decide (((a :: x).length : Int) >= 1) = true := by rw [decide_eq_true_iff, List.length_cons]; omega
   rw [decide_eq_true (p := (a :: x ≠ [] /\ _)) ⟨by simp, hx, e3⟩]
   simp only [List.length_map, e1, e2]
 ·rw [if_neg ha, decide_eq_false λ h => ha λ k _ hk => h.2.2 k hk]
def XP (C : List (List RT7)) (k : Nat) : Prop := ∃ h : k < C.length, XG mxT C.length k 100 C[k]
theorem zhc {C : List (List RT7)} (hC : C.length <= 500) : CG mxT 100 500 C ↔ All (XP C) 0 C.length :=
 ⟨λ h j _ hj => ⟨hj, h.xs j hj⟩, λ h => ⟨λ k hk => (h k (Nat.zero_le _) hk).2, hC⟩⟩
theorem zsK {C : List (List RT7)} (hW : Wf C) : ∀ (d k f : Nat), k + d = C.length -> d < f -> (Zl 600).L f ((k : Int), zh C) = if All (XP C) k C.length then some (.inr (zh C)) else some (.inl (false, zh C)) := by
 have hle := hW.le
 intro d
 induction d with
 | zero =>
  intro k f hk hf
  obtain ⟨f, rfl⟩ := pS hf
  obtain rfl : k = C.length := by omega
  rw [if_pos (All.nil _ _)]
  show (Zl 600).b _ _ ((Zl 600).L f) some = _
  have e2 : decide ((C.length : Int) < (C.length : Int)) = false := dF (by omega)
  simp only [Zl]
  simp only [zq, e2]
 | succ d ih =>
  intro k f hk hf
  obtain ⟨f, rfl⟩ := pS hf
  have hkl : k < C.length := by omega
  have r1 := ih (k + 1) f (by omega) (by omega)
  show (Zl 600).b _ _ ((Zl 600).L f) some = _
  generalize (Zl 600).L f = Lf at r1 |-
  have e2 : decide ((k : Int) < (C.length : Int)) = true := dT (by omega)
  have h0 : 0 <= (k : Int) := by omega
  have v1 := zBo (hW.vs _ (List.getElem_mem hkl)) (hW.xs _ (List.getElem_mem hkl)) C.length k
  simp only [Zl]
  simp only [zq, e2, h0, if_true, Int.toNat_natCast, zI C k hkl, rd6, v1, zi (show k < 1000000 by omega)]
  by_cases hx : XG mxT C.length k 100 C[k]
  ·rw [decide_eq_true hx]
   exact r1.trans (All.ite (show XP C k from ⟨hkl, hx⟩) _ _)
  ·rw [decide_eq_false hx, if_neg (All.no hkl λ h => hx h.2)]
   rfl
theorem zub {C : List (List RT7)} (hW : Wf C) : ziP 600 (zh C) = some (decide (CG mxT 100 500 C)) := by
 have hle := hW.le
 have h1 : (Zl 600).L 600 (0, zh C) = _ := zsK hW C.length 0 600 (by omega) (by omega)
 have e2 : decide ((C.length : Int) <= 500) = true := dT (by omega)
 simp only [ziP, FSpec.d, znA, zkI, h1]
 by_cases ha : All (XP C) 0 C.length
 ·rw [if_pos ha, decide_eq_true ((zhc hle).2 ha)]
  simp only [zq, e2]
 ·rw [if_neg ha, decide_eq_false λ h => ha ((zhc hle).1 h)]
theorem zug {x : List RT7} (hW : ∀ v ∈ x, WfV v) (hx : x.length <= 100) (C : List (List RT7)) (hC : C.length <= 500) (i : Nat) (h1 : ∀ h : 0 < x.length, kdV x[0] = 1) {k : Nat} (hk : k < x.length) (hp : ∀ j, j < k -> VP C.length i x j) (f : Nat) :
  (VP C.length i x k /\ (zZ 600).L (f + 1) (zh C, x.map zp, (i : Int), (C.length : Int), (i : Int), (x.length : Int), (k : Int), zh C, x.map zp) = (zZ 600).L f (zh C, x.map zp, (i : Int), (C.length : Int), (i : Int), (x.length : Int), ((k + 1 : Nat) : Int), zh C, x.map zp)) \/ (¬ VP C.length i x k /\ (zZ 600).L (f + 1) (zh C, x.map zp, (i : Int), (C.length : Int), (i : Int), (x.length : Int), (k : Int), zh C, x.map zp) = some (.inl (zh C, false, (C.length : Int), (i : Int), zh C))) := by
 have hv := hW x[k] (List.getElem_mem _)
 obtain ⟨Lf, hLf⟩ : ∃ Lf, Lf = (zZ 600).L f := ⟨_, rfl⟩
 have hu : ∀ y, (zZ 600).b (zh C, x.map zp, (i : Int), (C.length : Int), (i : Int), (x.length : Int), (k : Int), zh C, x.map zp) _ Lf some = y -> (zZ 600).L (f + 1) (zh C, x.map zp, (i : Int), (C.length : Int), (i : Int), (x.length : Int), (k : Int), zh C, x.map zp) = y := λ y h => by rw [hLf] at h; exact h
 rw [<- hLf]
 have e2 : decide ((k : Int) < (x.length : Int)) = true := dT (by omega)
 have h0 : 0 <= (k : Int) := by omega
 have n1 := zi (k := k) (by omega)
 have hs := zt0 hv C.length i
 by_cases hg : VG mxT C.length i x[k]
 case neg =>
  rw [decide_eq_false hg] at hs
  refine .inr ⟨λ ⟨_, h, _⟩ => hg h, hu _ ?_⟩
  simp only [zZ]
  simp only [e2, h0, if_true, Int.toNat_natCast, zcA x k hk, rd7, zq, hs, Bool.not_false]
 rw [decide_eq_true hg] at hs
 cases k with
 | zero =>
  have d6 : (((0 : Nat) : Int) == 0) = true := by decide
  refine .inl ⟨⟨hk, hg, λ _ => h1 hk, λ j _ e => by omega⟩, hu _ ?_⟩
  simp only [zZ]
  simp only [e2, h0, if_true, Int.toNat_natCast, zcA x 0 hk, rd7, zq, hs, Bool.not_true, d6, n1]
  exact if_pos trivial
 | succ k' =>
  obtain ⟨_, hg', -⟩ := hp k' (by omega)
  have d6 : (((k' + 1 : Nat) : Int) == 0) = false := by simp; omega
  have d7 : i64 (((k' + 1 : Nat) : Int) - 1) = (k' : Int) := by rw [zG (by omega)]; omega
  have h0' : 0 <= (k' : Int) := by omega
  have q1 : 0 <= x[k' + 1].1 /\ x[k' + 1].1 < 7 := ⟨hg.kd.lt.1, hg.kd.lt.2.1⟩
  have q2 : 0 <= x[k'].1 /\ x[k'].1 < 7 := ⟨hg'.kd.lt.1, hg'.kd.lt.2.1⟩
  have t1 := zt4 hg.kd hg'.kd
  have t2 := zit hg.kd
  simp only [kdV] at t1 t2
  have bad : ¬ Stp x[k'] x[k' + 1] -> ¬ VP C.length i x (k' + 1) := λ h ⟨_, _, _, g⟩ => h (g k' (by omega) rfl)
  have good : Stp x[k'] x[k' + 1] -> VP C.length i x (k' + 1) := λ h => ⟨hk, hg, λ e => by omega, λ j hj e => by
   obtain rfl : k' = j := by omega
   exact h⟩
  by_cases t3 : x[k' + 1].2.1 < x[k'].2.1
  ·refine .inr ⟨bad λ h => (by have := h.1; simp only [atV] at this; omega), hu _ ?_⟩
   simp only [zZ]
   simp only [e2, h0, if_true, Int.toNat_natCast, zcA x (k' + 1) hk, rd7, zq, hs, Bool.not_true, d6, d7, h0', zcA x k' (by omega), t3, decide_true]
  cases hf : ztc (kdV x[k' + 1]) (kdV x[k']) with
  | false =>
   simp only [kdV] at hf
   rw [hf] at t1
   refine .inr ⟨bad λ h => (by have := h.2.1; simp only [kdV] at this; rw [hf] at this; cases this), hu _ ?_⟩
   simp only [zZ]
   simp only [e2, h0, if_true, Int.toNat_natCast, zcA x (k' + 1) hk, rd7, zq, hs, Bool.not_true, d6, d7, h0', zcA x k' (by omega), t3, decide_false, q1, q2, and_self, t1, Bool.not_false]
  | true =>
   have hf' := hf
   simp only [kdV] at hf
   rw [hf] at t1
   cases hkp : jF x[k' + 1].1 with
   | false =>
    rw [hkp] at t2
    refine .inl ⟨good ⟨by simp only [atV]; omega, hf', λ h => by rw [show jF (kdV x[k' + 1]) = jF x[k' + 1].1 from rfl, hkp] at h; cases h⟩, hu _ ?_⟩
    simp only [zZ]
    simp only [e2, h0, if_true, Int.toNat_natCast, zcA x (k' + 1) hk, rd7, zq, hs, Bool.not_true, d6, d7, h0', zcA x k' (by omega), t3, decide_false, q1, q2, and_self, t1, t2, n1]
    exact if_pos trivial
   | true =>
    rw [hkp] at t2
    obtain ⟨b, w1, w2⟩ := zoz (evV x[k' + 1]) (evV x[k']) hv.pk (hW _ (List.getElem_mem _)).pk
    replace w1 : zli 600 (zm x[k' + 1], zm x[k']) = some b := w1
    cases b with
    | false =>
     refine .inr ⟨bad λ h => (by have := w2.2 (h.2.2 hkp).symm; cases this), hu _ ?_⟩
     simp only [zZ]
     simp only [e2, h0, if_true, Int.toNat_natCast, zcA x (k' + 1) hk, rd7, zq, hs, Bool.not_true, d6, d7, h0', zcA x k' (by omega), t3, decide_false, q1, q2, and_self, t1, t2, w1, Bool.not_false]
    | true =>
     refine .inl ⟨good ⟨by simp only [atV]; omega, hf', λ _ => (w2.1 rfl).symm⟩, hu _ ?_⟩
     simp only [zZ]
     simp only [e2, h0, if_true, Int.toNat_natCast, zcA x (k' + 1) hk, rd7, zq, hs, Bool.not_true, d6, d7, h0', zcA x k' (by omega), t3, decide_false, q1, q2, and_self, t1, t2, w1, n1]
     exact if_pos trivial
theorem zuf {x : List RT7} (hW : ∀ v ∈ x, WfV v) (hx : x.length <= 100) (C : List (List RT7)) (hC : C.length <= 500) (i : Nat) (h1 : ∀ h : 0 < x.length, kdV x[0] = 1) : ∀ (d k f : Nat), k + d = x.length -> d < f -> (∀ j, j < k -> VP C.length i x j) -> (zZ 600).L f (zh C, x.map zp, (i : Int), (C.length : Int), (i : Int), (x.length : Int), (k : Int), zh C, x.map zp) = if All (VP C.length i x) k x.length then some (.inr (zh C, (C.length : Int), (i : Int), zh C)) else some (.inl (zh C, false, (C.length : Int), (i : Int), zh C)) := by
 intro d
 induction d with
 | zero =>
  intro k f hk hf hp
  obtain ⟨f, rfl⟩ := pS hf
  obtain rfl : k = x.length := by omega
  rw [if_pos (All.nil _ _)]
  show (zZ 600).b _ _ ((zZ 600).L f) some = _
  have e2 : decide ((x.length : Int) < (x.length : Int)) = false := dF (by omega)
  simp only [zZ]
  simp only [e2]
 | succ d ih =>
  intro k f hk hf hp
  obtain ⟨f, rfl⟩ := pS hf
  have hkl : k < x.length := by omega
  rcases zug hW hx C hC i h1 hkl hp f with ⟨g1, g2⟩ | ⟨g1, g2⟩
  ·rw [g2, ih (k + 1) f (by omega) (by omega) λ j hj => by
    rcases Nat.lt_or_eq_of_le (Nat.le_of_lt_succ hj) with h | rfl
    ·exact hp j h
    ·exact g1, All.ite g1]
  ·rw [g2, if_neg (All.no hkl g1)]
theorem zsJ {C : List (List RT7)} (hW : Wf C) : ∀ (d k f : Nat), k + d = C.length -> d < f -> (j6 600).L f (zh C, (C.length : Int), (k : Int), zh C) = if All (XP C) k C.length then some (.inr ()) else some (.inl false) := by
 have hle := hW.le
 intro d
 induction d with
 | zero =>
  intro k f hk hf
  obtain ⟨f, rfl⟩ := pS hf
  obtain rfl : k = C.length := by omega
  rw [if_pos (All.nil _ _)]
  show (j6 600).b _ _ ((j6 600).L f) some = _
  have e2 : decide ((C.length : Int) < (C.length : Int)) = false := dF (by omega)
  simp only [j6]
  simp only [e2]
 | succ d ih =>
  intro k f hk hf
  obtain ⟨f, rfl⟩ := pS hf
  have hkl : k < C.length := by omega
  have r1 := ih (k + 1) f (by omega) (by omega)
  show (j6 600).b _ _ ((j6 600).L f) some = _
  generalize (j6 600).L f = Lf at r1 |-
  have e2 : decide ((k : Int) < (C.length : Int)) = true := dT (by omega)
  have h0 : 0 <= (k : Int) := by omega
  have hvs := hW.vs _ (List.getElem_mem hkl)
  have hxl := hW.xs _ (List.getElem_mem hkl)
  have hgt := zI C k hkl
  have hXP : XP C k ↔ XG mxT C.length k 100 C[k] := ⟨λ h => h.2, λ h => ⟨hkl, h⟩⟩
  obtain ⟨x, hx⟩ : ∃ x, x = C[k] := ⟨_, rfl⟩
  rw [<- hx] at hvs hxl hgt hXP
  have c2 : decide ((x.length : Int) > 100) = false := dF (by omega)
  simp only [j6]
  simp only [e2, h0, if_true, Int.toNat_natCast, hgt, rd6, List.length_map, c2]
  by_cases hne : x = []
  ·subst hne
   rw [if_neg (All.no hkl λ h => (hXP.1 h).ne rfl)]
   rfl
  have hp := List.length_pos_iff.2 hne
  have c1 : decide ((x.length : Int) < 1) = false := dF (by omega)
  have c3 : (x.map zp)[(0 : Int).toNat]? = some (zp x[0]) := zcA x 0 hp
  have c4 : ((zp x[0]).drop 0)[0]? = some (.v (.int .i64 x[0].1)) := rfl
  have c6 : (0 : Int) <= 0 := by omega
  by_cases hk1 : x[0].1 = 1
  case neg =>
   have c5 : (x[0].1 != 1) = true := by simp [hk1]
   rw [if_neg (All.no hkl λ h => hk1 ((hXP.1 h).hd hp))]
   simp only [c1, c6, c3, c4, c5, if_true]
  have c5 : (x[0].1 != 1) = false := by simp [hk1]
  have r2 := zuf hvs hxl C hle k (λ _ => hk1) x.length 0 600 (by omega) (by omega) (λ j hj => by omega)
  replace r2 : (zZ 600).L 600 (zh C, x.map zp, (k : Int), (C.length : Int), (k : Int), (x.length : Int), 0, zh C, x.map zp) = _ := r2
  simp only [c1, c6, c3, c4, c5, if_true, zkB, r2]
  by_cases ha : All (VP C.length k x) 0 x.length
  ·rw [if_pos ha]
   have hg : XP C k := hXP.2 ((zlZ _ _ _).2 ⟨hne, hxl, λ j hj => ha j (Nat.zero_le _) hj⟩)
   simp only [zi (show k < 1000000 by omega), r1, All.ite hg]
   rfl
  ·rw [if_neg ha, if_neg (All.no hkl λ h => ha λ j _ hj => ((zlZ _ _ _).1 (hXP.1 h)).2.2 j hj)]
theorem zua {C : List (List RT7)} (hW : Wf C) : zkA 600 (zh C) = some (decide (CG mxT 100 500 C)) := by
 have hle := hW.le
 have h1 : (j6 600).L 600 (zh C, (C.length : Int), 0, zh C) = _ := zsJ hW C.length 0 600 (by omega) (by omega)
 have e2 : decide ((C.length : Int) > 500) = false := dF (by omega)
 simp only [zkA, FSpec.d, zrM, zp4, zq, e2, h1]
 by_cases ha : All (XP C) 0 C.length
 ·rw [if_pos ha, decide_eq_true ((zhc hle).2 ha)]
 ·rw [if_neg ha, decide_eq_false λ h => ha ((zhc hle).1 h)]
end
section
open Classical
theorem XG.asc {T : Int} {n i m : Nat} {x : List RT7} (h : XG T n i m x) : ∀ (d k : Nat) (hk : k + d < x.length), atV x[k] <= atV x[k + d] := by
 intro d
 induction d with
 | zero => intro k hk; exact Int.le_refl _
 | succ d ih => intro k hk; exact Int.le_trans (ih k (by omega)) (h.st (k + d) hk).1
def AP (C : List (List RT7)) (t : Int) (k : Nat) : Prop := ∀ (h : k < C.length) (v : RT7), v ∈ C[k] -> atV v <= t
theorem XG.ap {T : Int} {n i m : Nat} {x : List RT7} (h : XG T n i m x) (t : Int) : atV (x.getLast h.ne) <= t ↔ ∀ v ∈ x, atV v <= t := by
 have hp := h.pos
 rw [List.getLast_eq_getElem]
 refine ⟨λ h1 v hv => ?_, λ h1 => h1 _ (List.getElem_mem _)⟩
 obtain ⟨k, hk, rfl⟩ := List.getElem_of_mem hv
 have h2 := h.asc (x.length - 1 - k) k (by omega)
 have e : k + (x.length - 1 - k) = x.length - 1 := by omega
 simp only [e] at h2
 exact Int.le_trans h2 h1
theorem zoP {C : List (List RT7)} {t : Int} (h : CG mxT 100 500 C) : ∀ (d k f : Nat), k + d = C.length -> d < f -> (Zm 600).L f (t, (k : Int), zh C) = if All (AP C t) k C.length then some (.inr ()) else some (.inl false) := by
 intro d
 induction d with
 | zero =>
  intro k f hk hf
  obtain ⟨f, rfl⟩ := pS hf
  obtain rfl : k = C.length := by omega
  rw [if_pos (All.nil _ _)]
  show (Zm 600).b _ _ ((Zm 600).L f) some = _
  have e2 : decide ((C.length : Int) < (C.length : Int)) = false := dF (by omega)
  simp only [Zm]
  simp only [zq, e2]
 | succ d ih =>
  intro k f hk hf
  obtain ⟨f, rfl⟩ := pS hf
  have hkl : k < C.length := by omega
  have r1 := ih (k + 1) f (by omega) (by omega)
  show (Zm 600).b _ _ ((Zm 600).L f) some = _
  generalize (Zm 600).L f = Lf at r1 |-
  have e2 : decide ((k : Int) < (C.length : Int)) = true := dT (by omega)
  have h0 : 0 <= (k : Int) := by omega
  have hle := h.le
  have hx := h.xs k hkl
  have v1 := zbi C[k] hx.ne (by have := hx.le; omega)
  simp only [Zm]
  simp only [zq, e2, h0, if_true, Int.toNat_natCast, zI C k hkl, rd6, v1]
  by_cases hc : atV (C[k].getLast hx.ne) <= t
  ·have v2 : decide ((C[k].getLast hx.ne).2.1 > t) = false := by rw [decide_eq_false_iff_not]; simp only [atV] at hc; omega
   have ha : AP C t k := λ _ => (hx.ap t).1 hc
   simp only [v2, zi (show k < 1000000 by omega)]
   exact r1.trans (All.ite ha _ _)
  ·have v2 : decide ((C[k].getLast hx.ne).2.1 > t) = true := by rw [decide_eq_true_iff]; simp only [atV] at hc; omega
   rw [if_neg (All.no hkl λ h => hc ((hx.ap t).2 (h hkl)))]
   simp only [v2]
theorem zA8 {C : List (List RT7)} {t : Int} (h : CG mxT 100 500 C) : ziZ 600 (zh C, t) = some (decide (All (AP C t) 0 C.length)) := by
 have hle := h.le
 have h1 : (Zm 600).L 600 (t, 0, zh C) = _ := zoP h C.length 0 600 (by omega) (by omega)
 simp only [ziZ, FSpec.d, znR, zlo, h1]
 by_cases ha : All (AP C t) 0 C.length
 ·rw [if_pos ha, decide_eq_true ha]
 ·rw [if_neg ha, decide_eq_false ha]
theorem zxR {C : List (List RT7)} (hC : CG mxT 100 500 C) (i : Nat) (hi : i < C.length) : ∀ (d k f : Nat) (y : Int), k + d = C[i].length -> d < f -> ∃ y', (Z6 600).L f (zh C, C[i].map zp, y, (C.length : Int), (i : Int), (C[i].length : Int), (k : Int)) = some (zh C, y', (C.length : Int), (i : Int)) /\ ∀ t, y' <= t ↔ y <= t /\ All (λ j => ∀ h : j < C[i].length, atV C[i][j] <= t) k C[i].length := by
 have h := hC.xs i hi
 have hle := hC.le
 have hxl := h.le
 intro d
 induction d with
 | zero =>
  intro k f y hk hf
  obtain ⟨f, rfl⟩ := pS hf
  obtain rfl : k = C[i].length := by omega
  refine ⟨y, ?_, λ t => ⟨λ h => ⟨h, All.nil _ _⟩, λ h => h.1⟩⟩
  show (Z6 600).b _ _ ((Z6 600).L f) some = _
  have e2 : decide ((C[i].length : Int) < (C[i].length : Int)) = false := dF (by omega)
  simp only [Z6]
  simp only [e2]
 | succ d ih =>
  intro k f y hk hf
  obtain ⟨f, rfl⟩ := pS hf
  have hkl : k < C[i].length := by omega
  obtain ⟨y', r1, r2⟩ := ih (k + 1) f (if C[i][k].2.1 > y then C[i][k].2.1 else y) (by omega) (by omega)
  refine ⟨y', ?_, λ t => (r2 t).trans ⟨λ ⟨g1, g2⟩ => ?_, λ ⟨g1, g2⟩ => ?_⟩⟩
  ·show (Z6 600).b _ _ ((Z6 600).L f) some = _
   generalize (Z6 600).L f = Lf at r1 |-
   have e2 : decide ((k : Int) < (C[i].length : Int)) = true := dT (by omega)
   have h0 : 0 <= (k : Int) := by omega
   simp only [Z6]
   simp only [e2, h0, if_true, Int.toNat_natCast, zcA C[i] k hkl, rd7, zi (show k < 1000000 by omega)]
   exact r1
  ·have a : y <= t /\ C[i][k].2.1 <= t := by split at g1 <;> omega
   exact ⟨a.1, (All.step (p := λ j => ∀ h : j < C[i].length, atV C[i][j] <= t) λ _ => a.2).2 g2⟩
  ·have a : C[i][k].2.1 <= t := g2 k (Nat.le_refl _) hkl hkl
   exact ⟨by split <;> omega, λ j h1 h2 => g2 j (by omega) h2⟩
theorem ztu {C : List (List RT7)} (hC : CG mxT 100 500 C) : ∀ (d k f : Nat) (y : Int), k + d = C.length -> d < f -> ∃ y' : Int, (Ja 600).L f (zh C, y, (C.length : Int), (k : Int)) = some y' /\ ∀ t, y' <= t ↔ y <= t /\ All (AP C t) k C.length := by
 have hle := hC.le
 intro d
 induction d with
 | zero =>
  intro k f y hk hf
  obtain ⟨f, rfl⟩ := pS hf
  obtain rfl : k = C.length := by omega
  refine ⟨y, ?_, λ t => ⟨λ h => ⟨h, All.nil _ _⟩, λ h => h.1⟩⟩
  show (Ja 600).b _ _ ((Ja 600).L f) some = _
  have e2 : decide ((C.length : Int) < (C.length : Int)) = false := dF (by omega)
  simp only [Ja]
  simp only [e2]
 | succ d ih =>
  intro k f y hk hf
  obtain ⟨f, rfl⟩ := pS hf
  have hkl : k < C.length := by omega
  have hxl := (hC.xs k hkl).le
  obtain ⟨y1, a1, a2⟩ := zxR hC k hkl C[k].length 0 600 y (by omega) (by omega)
  replace a1 : (Z6 600).L 600 (zh C, C[k].map zp, y, (C.length : Int), (k : Int), (C[k].length : Int), 0) = _ := a1
  obtain ⟨y', r1, r2⟩ := ih (k + 1) f y1 (by omega) (by omega)
  have hap : ∀ t, AP C t k ↔ All (λ j => ∀ h : j < C[k].length, atV C[k][j] <= t) 0 C[k].length := λ t => ⟨λ h j _ hj _ => h hkl _ (List.getElem_mem _), λ h _ v hv => by
   obtain ⟨j, hj, rfl⟩ := List.getElem_of_mem hv
   exact h j (Nat.zero_le _) hj hj⟩
  refine ⟨y', ?_, λ t => (r2 t).trans ⟨λ ⟨g1, g2⟩ => ?_, λ ⟨g1, g2⟩ => ?_⟩⟩
  ·show (Ja 600).b _ _ ((Ja 600).L f) some = _
   generalize (Ja 600).L f = Lf at r1 |-
   have e2 : decide ((k : Int) < (C.length : Int)) = true := dT (by omega)
   have h0 : 0 <= (k : Int) := by omega
   simp only [Ja]
   simp only [e2, h0, if_true, Int.toNat_natCast, zI C k hkl, rd6, List.length_map, zlR, a1, zi (show k < 1000000 by omega)]
   exact r1
  ·have g3 := (a2 t).1 g1
   exact ⟨g3.1, (All.step ((hap t).2 g3.2)).2 g2⟩
  ·exact ⟨(a2 t).2 ⟨g1, (hap t).1 (g2 k (Nat.le_refl _) hkl)⟩, λ j h1 h2 => g2 j (by omega) h2⟩
theorem zt8 {C : List (List RT7)} (hC : CG mxT 100 500 C) {t : Int} (h0 : 0 <= t) (ht : t <= 18014398509481984) : ziX 600 (zh C, t) = some (if All (AP C t) 0 C.length then 0 else 9) := by
 have hle := hC.le
 obtain ⟨y, h1, h2⟩ := ztu hC C.length 0 600 0 (by omega) (by omega)
 replace h1 : (Ja 600).L 600 (zh C, 0, (C.length : Int), 0) = some y := h1
 have c1 : decide (t < 0) = false := dF (by omega)
 have c2 : decide (t > 18014398509481984) = false := dF (by omega)
 simp only [ziX, FSpec.d, znL, c1, c2, zwR, zsB, zqz, zq, h1]
 by_cases ha : All (AP C t) 0 C.length
 ·have c3 : decide (t < y) = false := by rw [decide_eq_false_iff_not]; have := (h2 t).2 ⟨h0, ha⟩; omega
  rw [if_pos ha]
  simp only [c3]
 ·have c3 : decide (t < y) = true := by rw [decide_eq_true_iff]; exact Int.not_le.1 λ h => ha ((h2 t).1 h).2
  rw [if_neg ha]
  simp only [c3]
theorem zng (X : List (List AV)) {t : Int} (h : t < 0 \/ t > 18014398509481984) : ziX 600 (X, t) = some 2 := by
 simp only [ziX, FSpec.d, znL]
 by_cases c : t < 0
 ·simp only [c, decide_true]
 ·simp only [c, h.resolve_left c, decide_true, decide_false]
theorem zsM {k t : Int} {b : ByteArray} {to : Int} {e1 : RT0} (hs : Say k b to e1) (id : Nat) (X : List (List AV)) (L : RT7) : (Ref k to id L /\ JY 600 ((id : Int), X, (k, t, b, to, e1), [], L) = some (.inl ((id : Int), 10, X, (k, t, b, to, e1), [], L))) \/ (¬ Ref k to id L /\ JY 600 ((id : Int), X, (k, t, b, to, e1), [], L) = some (.inr ((id : Int), X, (k, t, b, to, e1), [], L))) := by
 have hu : ∀ y, (Zx 600).b ((id : Int), X, (k, t, b, to, e1), [], L) _ ((Zx 600).L 599) some = y -> JY 600 ((id : Int), X, (k, t, b, to, e1), [], L) = y := λ y h => h
 have hop := zih 600 L
 rcases hs.kd with rfl | rfl | rfl | rfl
 ·exact .inr ⟨by simp [Ref], hu _ (by kernel_rfl)⟩
 ·exact .inr ⟨by simp [Ref], hu _ (by kernel_rfl)⟩
 ·by_cases c3 : to = (id : Int)
  ·refine .inl ⟨by simp [Ref, c3], hu _ ?_⟩
   have c4 : (to == (id : Int)) = true := by simp [c3]
   have c5 : ((5 : Int) == 5) = true := by decide
   simp only [Zx]
   simp only [c4, c5]
  ·refine .inr ⟨by simp [Ref, c3], hu _ ?_⟩
   have c4 : (to == (id : Int)) = false := by simp [c3]
   have c5 : ((5 : Int) == 5) = true := by decide
   have c6 : ((5 : Int) == 6) = false := by decide
   simp only [Zx]
   simp only [c4, c5, c6]
 ·have c5 : ((6 : Int) == 5) = false := by decide
  have c6 : ((6 : Int) == 6) = true := by decide
  cases ho : jR (kdV L) with
  | true =>
   refine .inl ⟨.inr ⟨rfl, ho⟩, hu _ ?_⟩
   rw [ho] at hop
   simp only [Zx]
   simp only [c5, c6, hop]
  | false =>
   refine .inr ⟨by simp [Ref, ho], hu _ ?_⟩
   rw [ho] at hop
   simp only [Zx]
   simp only [c5, c6, hop]
def Fit (C : List (List RT7)) (k : Int) (b : ByteArray) (e1 : RT0) : Prop := CG mxT 100 500 C /\ Per b /\ (k = 3 -> EvG e1)
theorem zAL {C : List (List RT7)} (hW : Wf C) (id : Int) {k t to : Int} {b : ByteArray} {e1 : RT0} (hb : b.size <= 9223372036854775807) (he : Jf e1) :
  (Fit C k b e1 /\ zeX 600 (id, zh C, (k, t, b, to, e1), []) = some (.inr (id, zh C, (k, t, b, to, e1), [])) /\ zhs 600 (id, zh C, (k, t, b, to, e1), []) = some (.inr (id, zh C, (k, t, b, to, e1), []))) \/ (zeX 600 (id, zh C, (k, t, b, to, e1), []) = some (.inl (id, 1, zh C, (k, t, b, to, e1), [])) /\ zhs 600 (id, zh C, (k, t, b, to, e1), []) = some (.inl (id, 1, zh C, (k, t, b, to, e1), []))) := by
 have hu : ∀ y, (jK 600).b (id, zh C, (k, t, b, to, e1), []) _ ((jK 600).L 599) some = y -> zeX 600 (id, zh C, (k, t, b, to, e1), []) = y := λ y h => h
 have hw : ∀ y, (JR 600).b (id, zh C, (k, t, b, to, e1), []) _ ((JR 600).L 599) some = y -> zhs 600 (id, zh C, (k, t, b, to, e1), []) = y := λ y h => h
 have a1 := zub hW
 have a2 := zua hW
 have a3 : zgp 600 b = some (zcV b) := zx4 hb
 have a4 : zgo 600 b = some (zcV b) := zx3 hb
 by_cases hC : CG mxT 100 500 C
 case neg =>
  rw [decide_eq_false hC] at a1 a2
  refine .inr ⟨hu _ ?_, hw _ ?_⟩
  ·simp only [jK]
   simp only [a1, Bool.not_false]
  ·simp only [JR]
   simp only [a2, Bool.not_false]
 rw [decide_eq_true hC] at a1 a2
 cases hp : zcV b with
 | false =>
  refine .inr ⟨hu _ ?_, hw _ ?_⟩
  ·simp only [jK]
   simp only [a1, a3, hp, Bool.not_false, Bool.not_true]
  ·simp only [JR]
   simp only [a2, a4, hp, Bool.not_false, Bool.not_true]
 | true =>
 by_cases k3 : k = 3
 case neg =>
  have c1 : (k == 3) = false := by simp [k3]
  refine .inl ⟨⟨hC, hp, λ h => absurd h k3⟩, hu _ ?_, hw _ ?_⟩
  ·simp only [jK]
   simp only [a1, a3, hp, Bool.not_true, c1]
  ·simp only [JR]
   simp only [a2, a4, hp, Bool.not_true, c1]
 have c1 : (k == 3) = true := by simp [k3]
 rcases zeq he with ⟨hg, a5, a6⟩ | ⟨hg, a5, a6⟩
 ·replace a5 : Jk 600 [zu (zm (k, t, b, to, e1))] = some true := a5
  replace a6 : zcY 600 (zm (k, t, b, to, e1)) = some true := a6
  refine .inl ⟨⟨hC, hp, λ h => hg⟩, hu _ ?_, hw _ ?_⟩
  ·simp only [jK]
   simp only [a1, a3, hp, Bool.not_true, c1, a5]
  ·simp only [JR]
   simp only [a2, a4, hp, Bool.not_true, c1, a6]
 ·replace a5 : Jk 600 [zu (zm (k, t, b, to, e1))] = some false := a5
  replace a6 : zcY 600 (zm (k, t, b, to, e1)) = some false := a6
  refine .inr ⟨hu _ ?_, hw _ ?_⟩
  ·simp only [jK]
   simp only [a1, a3, hp, Bool.not_true, Bool.not_false, c1, a5]
  ·simp only [JR]
   simp only [a2, a4, hp, Bool.not_true, Bool.not_false, c1, a6]
theorem zAM (C : List (List RT7)) (id : Int) {k t to : Int} {b : ByteArray} {e1 : RT0} (h0 : k ≠ 5 -> to = 0) :
  (((0 <= id /\ id < (C.length : Int)) /\ 0 <= to /\ to < (C.length : Int)) /\ zht 600 (id, zh C, (k, t, b, to, e1), []) = some (.inr (id, zh C, (k, t, b, to, e1), []))) \/ (¬ ((0 <= id /\ id < (C.length : Int)) /\ 0 <= to /\ to < (C.length : Int)) /\ zht 600 (id, zh C, (k, t, b, to, e1), []) = some (.inl (id, 6, zh C, (k, t, b, to, e1), []))) := by
 have hu : ∀ y, (zak 600).b (id, zh C, (k, t, b, to, e1), []) _ ((zak 600).L 599) some = y -> zht 600 (id, zh C, (k, t, b, to, e1), []) = y := λ y h => h
 have hex : ∀ i : Int, zlN 600 (zh C, i) = some (decide (0 <= i /\ i < (C.length : Int))) := λ i => by rw [zoD, zq]
 by_cases c1 : 0 <= id /\ id < (C.length : Int)
 case neg =>
  refine .inr ⟨λ h => c1 h.1, hu _ ?_⟩
  simp only [zak]
  simp only [hex, decide_eq_false c1, Bool.not_false]
 by_cases k5 : k = 5
 ·have d2 : (k == 5) = true := by simp [k5]
  by_cases c2 : 0 <= to /\ to < (C.length : Int)
  ·refine .inl ⟨⟨c1, c2⟩, hu _ ?_⟩
   simp only [zak]
   simp only [hex, decide_eq_true c1, d2, decide_eq_true c2, Bool.not_true]
  ·refine .inr ⟨λ h => c2 h.2, hu _ ?_⟩
   simp only [zak]
   simp only [hex, decide_eq_true c1, d2, decide_eq_false c2, Bool.not_true, Bool.not_false]
 ·have d2 : (k == 5) = false := by simp [k5]
  have c2 := h0 k5
  refine .inl ⟨⟨c1, by omega⟩, hu _ ?_⟩
  simp only [zak]
  simp only [hex, decide_eq_true c1, d2, Bool.not_true]
theorem WfV.act {b : ByteArray} {e1 : RT0} (hb : b.size <= 9223372036854775807) (he : Jf e1) (k t to : Int) {L : RT0} (hL : Jf L) : WfV (zhG k t b to e1 L) := by
 refine ⟨?_, hb⟩
 show Jf (if jF k = true then _ else _)
 split
 ·exact hL
 ·exact he
theorem Wf.none : Wf [] := ⟨Nat.zero_le _, λ x h => by simp at h, λ x h => by simp at h⟩
theorem zn7 {C : List (List RT7)} (hW : Wf C) (id : Int) {k t to : Int} {b : ByteArray} {e1 : RT0} (hk : k = 3 \/ k = 4 \/ k = 5 \/ k = 6) (hb : b.size <= 9223372036854775807) (he : Jf e1) (h0 : k ≠ 5 -> to = 0) :
  ∃ D y, Z4 600 (zh C, id, (k, t, b, to, e1)) = some (zh D, y) /\ jW 600 (zh C, id, (k, t, b, to, e1)) = some (zh D, y) /\ Wf D := by
 have no : ∀ {p q : Option ((List (List AV)) × Int)} (y : Int), p = some ([], y) -> q = some ([], y) -> ∃ D y, p = some (zh D, y) /\ q = some (zh D, y) /\ Wf D := λ y h1 h2 => ⟨[], y, h1, h2, Wf.none⟩
 simp only [Z4, FSpec.d, znJ, jW, zrY]
 rcases zAL hW id (t := t) (to := to) (k := k) hb he with ⟨⟨hC, hp, hev⟩, g1, g2⟩ | ⟨g1, g2⟩
 case inr => refine no 1 ?_ ?_ <;> simp only [g1, g2]
 have hle := hC.le
 simp only [g1, g2, zq]
 rcases zAM C id (t := t) (b := b) (e1 := e1) h0 with ⟨⟨i1, i2⟩, g6⟩ | ⟨hn, g6⟩
 case inr =>
  refine no 6 ?_ (by simp only [g6])
  by_cases c1 : id < 0
  ·simp only [c1, decide_true]
  by_cases c2 : id >= (C.length : Int)
  ·simp only [c1, c2, decide_true, decide_false]
  by_cases c3 : to < 0
  ·simp only [c1, c2, c3, decide_true, decide_false]
  have c4 : to >= (C.length : Int) := Int.not_lt.1 λ h => hn ⟨⟨Int.not_lt.1 c1, Int.not_le.1 c2⟩, Int.not_lt.1 c3, h⟩
  simp only [c1, c2, c3, c4, decide_true, decide_false]
 obtain ⟨id, rfl⟩ : ∃ i : Nat, id = (i : Int) := ⟨id.toNat, by omega⟩
 have n1 : decide ((id : Int) < 0) = false := dF (by omega)
 have n2 : decide ((id : Int) >= (C.length : Int)) = false := dF (by omega)
 have n3 : decide (to < 0) = false := dF (by omega)
 have n4 : decide (to >= (C.length : Int)) = false := dF (by omega)
 simp only [n1, n2, n3, n4, g6]
 have z2 : ((2 : Int) != 0) = true := by decide
 have z9 : ((9 : Int) != 0) = true := by decide
 have z0 : ((0 : Int) != 0) = false := by decide
 by_cases t1 : t < 0
 ·refine no 2 ?_ ?_ <;> simp only [t1, zng _ (.inl t1), z2, decide_true]
 by_cases t2 : t > 18014398509481984
 ·refine no 2 ?_ ?_ <;> simp only [t1, t2, zng _ (.inr t2), z2, decide_true, decide_false]
 have htm := zt8 hC (Int.not_lt.1 t1) (Int.not_lt.1 t2)
 simp only [t1, t2, decide_false, htm, zA8 hC]
 by_cases hap : All (AP C t) 0 C.length
 case neg =>
  rw [if_neg hap, decide_eq_false hap]
  refine no 9 ?_ ?_ <;> simp only [z9, Bool.not_false]
 rw [if_pos hap, decide_eq_true hap]
 have hI : id < C.length := by omega
 have h0' : 0 <= (id : Int) := by omega
 have hx := hC.xs id hI
 have hxl := hx.le
 have hs : Say k b to e1 := ⟨hk, hp, hev, h0, i2.1⟩
 have hla := zbi C[id] hx.ne (by omega)
 have hlp := zxK C[id] hx.ne (by omega)
 obtain ⟨L, hLd⟩ : ∃ L, L = C[id].getLast hx.ne := ⟨_, rfl⟩
 have hL := hx.last
 rw [<- hLd] at hla hlp hL
 obtain ⟨c, h18, hc⟩ := zsL (t := t) hs id (zh C) hL.kd
 simp only [z0, Bool.not_true, h0', if_true, Int.toNat_natCast, zI C id hI, rd6, hla, hlp, h18]
 rcases zsM (t := t) hs id (zh C) L with ⟨hr, h19⟩ | ⟨hr, h19⟩
 ·rw [hc.2 hr, h19]
  exact no 10 rfl rfl
 have hcf : c = false := by cases c with
  | false => rfl
  | true => exact absurd (hc.1 rfl) hr
 rw [hcf, h19]
 simp only [h0', if_true, Int.toNat_natCast, zI C id hI, zfI, zjr]
 by_cases hl : C[id].length = 100
 ·have m1 : (((C[id].map zp).length : Int) == 100) = true := by simp [hl]
  simp only [m1]
  exact no 8 rfl rfl
 have m1 : (((C[id].map zp).length : Int) == 100) = false := by simp; omega
 have hkd : Kd6 k := by unfold Kd6; omega
 have q7 : 0 <= k /\ k < 7 := ⟨hkd.lt.1, hkd.lt.2.1⟩
 have htk := zit hkd
 have hkp := zfu 600 k
 have hLw : Jf (evV L) := hL.ev.pk
 obtain ⟨V, hVd⟩ : ∃ V, V = zhG k t b to e1 (evV L) := ⟨_, rfl⟩
 have hVw : WfV V := by rw [hVd]; exact WfV.act hb he k t to hLw
 have h27 : zk3 600 ((id : Int), jF k, zh C, (k, t, b, to, e1), [], L) = some ((id : Int), zh C, V, []) := by
  show (zaG 600).b _ _ ((zaG 600).L 599) some = _
  simp only [zaG]
  rw [hVd]
  cases hkk : jF k with
  | true => simp only [zhG, hkk, if_true]
  | false => simp only [zhG, hkk, Bool.false_eq_true, if_false]
 have hVe : zcX 600 (zm V) = some (evV V) := zfg hVw.pk
 obtain ⟨cs, q1, q2⟩ := zxu (by omega) (Nat.le_refl _) hC
 obtain ⟨cr, u1, u2⟩ := zmh (C := C) hle (hC.small (by omega))
 have sp : ∀ cs, FC C 0 cs -> cs[id]? = some (AV.list 29 (C[id].map zp) (some (TOB + id))) /\ id + 1 <= cs.length /\ (∀ q, C.length <= (splice cs id q).length) := λ cs h => by
  obtain ⟨tk, q3, _, q4⟩ := h.2 id hI
  rw [q4 (Nat.zero_le _)] at q3
  exact ⟨q3, by rw [h.1]; exact hI, λ q => by rw [zA, h.1]; exact Nat.le_refl _⟩
 obtain ⟨q3, b2, b3⟩ := sp cs q2
 obtain ⟨u3, d2, d3⟩ := sp cr u2
 have hI' : (id : Int) < (C.length : Int) := by omega
 have b1 : ((C[id].map zp).length + [zp V].length) * 288 <= ze := by unfold ze; simp; omega
 have hr' : (C[id].map zp) ++ [zp V] = (C[id] ++ [V]).map zp := by simp
 have hch := q2.csp id (C[id] ++ [V])
 have uch := u2.csp id (C[id] ++ [V])
 simp only [Nat.mul_one] at hch uch
 simp only [m1, q7, and_self, if_true, htk, h27, hVe, q1, hkp, u1]
 simp only [Int.toNat_natCast, hI', h0', q2.dJ, u2.dJ, Nat.zero_add, Nat.mul_one, Nat.add_zero, q3, u3, hI, and_self, if_true, Nat.zero_le, b2, d2]
 refine ⟨C.set id (C[id] ++ [V]), 0, ?_, (if_pos b1).trans ((if_pos (b3 _)).trans (by rw [<- hch, <- hr'])), hW.set (by simp; omega) λ v hv => ?_⟩
 ·rw [hVd] at b1 uch hr' |-
  unfold zhG at b1 uch hr' |-
  cases hkk : jF k with
  | true =>
   simp only [hkk, if_true] at b1 uch hr' |-
   rw [if_pos b1, if_pos (d3 _), <- uch, <- hr']
  | false =>
   simp only [hkk, Bool.false_eq_true, if_false] at b1 uch hr' |-
   rw [if_pos b1, if_pos (d3 _), <- uch, <- hr']
 ·rw [List.mem_append] at hv
  rcases hv with hv | hv
  ·exact hW.vs _ (List.getElem_mem _) v hv
  ·rw [List.mem_singleton.1 hv]
   exact hVw
end
section
theorem ztX {x : List RT7} (hW : ∀ v ∈ x, WfV v) (hx : x.length <= 100) (i : Int) (X Y : List (List AV)) : ∀ (d k f : Nat), k + d = x.length -> d < f -> (Z2 600).L f (x.map zp, x.map zp, i, (k : Int), X, Y) = some (.inr (i, X, Y)) := by
 intro d
 induction d with
 | zero =>
  intro k f hk hf
  obtain ⟨f, rfl⟩ := pS hf
  show (Z2 600).b _ _ ((Z2 600).L f) some = _
  have e2 : decide ((k : Int) < (x.length : Int)) = false := dF (by omega)
  simp only [Z2]
  simp only [List.length_map, e2]
 | succ d ih =>
  intro k f hk hf
  obtain ⟨f, rfl⟩ := pS hf
  have hkl : k < x.length := by omega
  have r1 := ih (k + 1) f (by omega) (by omega)
  show (Z2 600).b _ _ ((Z2 600).L f) some = _
  generalize (Z2 600).L f = Lf at r1 |-
  have e2 : decide ((k : Int) < (x.length : Int)) = true := dT (by omega)
  have h0 : 0 <= (k : Int) := by omega
  have hpk := (hW x[k] (List.getElem_mem _)).pk
  obtain ⟨v, hv⟩ : ∃ v, v = x[k] := ⟨_, rfl⟩
  have hg := zcA x k hkl
  rw [<- hv] at hpk hg
  have c0 : ((zp v).drop 0)[0]? = some (.v (.int .i64 v.1)) := rfl
  have c1 : ((zp v).drop 1)[0]? = some (.v (.int .i64 v.2.1)) := rfl
  have c2 : ((zp v).drop 2)[0]? = some (.v (.string v.2.2.1)) := rfl
  have c3 : ((zp v).drop 3)[0]? = some (.v (.int .i64 v.2.2.2.1)) := rfl
  have c4 : zfZ ((zp v).drop 4) = some (evV v) := jn _
  obtain ⟨b, q1, q2⟩ := zcJ (evV v) (evV v) hpk hpk
  rw [q2.2 rfl] at q1
  have d0 : ∀ i : Int, (i != i) = false := λ i => by simp
  have d1 : ∀ s : List UInt8, (s == s) = true := λ s => by simp
  simp only [Z2]
  simp only [List.length_map, e2, h0, if_true, Int.toNat_natCast, hg, c0, c1, c2, c3, c4, d0, d1, Bool.not_true, q1, zi (show k < 1000000 by omega)]
  exact r1
theorem zpk {C : List (List RT7)} (hW : Wf C) : ∀ (d k f : Nat), k + d = C.length -> d < f -> (j5 600).L f ((k : Int), zh C, zh C) = some (.inr ()) := by
 have hle := hW.le
 intro d
 induction d with
 | zero =>
  intro k f hk hf
  obtain ⟨f, rfl⟩ := pS hf
  show (j5 600).b _ _ ((j5 600).L f) some = _
  have e2 : decide ((k : Int) < (C.length : Int)) = false := dF (by omega)
  simp only [j5]
  simp only [zq, e2]
 | succ d ih =>
  intro k f hk hf
  obtain ⟨f, rfl⟩ := pS hf
  have hkl : k < C.length := by omega
  have r1 := ih (k + 1) f (by omega) (by omega)
  have r2 := ztX (hW.vs _ (List.getElem_mem hkl)) (hW.xs _ (List.getElem_mem hkl)) (k : Int) (zh C) (zh C) C[k].length 0 600 (by omega) (by have := hW.xs _ (List.getElem_mem hkl); omega)
  replace r2 : (Z2 600).L 600 (C[k].map zp, C[k].map zp, (k : Int), 0, zh C, zh C) = _ := r2
  show (j5 600).b _ _ ((j5 600).L f) some = _
  generalize (j5 600).L f = Lf at r1 |-
  have e2 : decide ((k : Int) < (C.length : Int)) = true := dT (by omega)
  have h0 : 0 <= (k : Int) := by omega
  have d0 : ∀ i : Int, (i != i) = false := λ i => by simp
  simp only [j5]
  simp only [zq, e2, h0, if_true, Int.toNat_natCast, zI C k hkl, zfI, zjr, d0, zkt, r2, zi (show k < 1000000 by omega)]
  exact r1
theorem ztY {C : List (List RT7)} (hW : Wf C) : zbM 600 (zh C, zh C) = some true := by
 have hle := hW.le
 have h1 : (j5 600).L 600 (0, zh C, zh C) = _ := zpk hW C.length 0 600 (by omega) (by omega)
 have d0 : ∀ i : Int, (i != i) = false := λ i => by simp
 simp only [zbM, FSpec.d, zrA, zp2, d0, h1]
theorem zpf (C : List (List RT7)) (id : Int) (b : ByteArray) (x : RT0) (t : Int) : zko 600 (zh C, id, b, x, t) = Z4 600 (zh C, id, (3, t, b, 0, x)) := by
 show (match Z4 600 (zh C, id, (3, t, b, 0, x)) with | some y1 => some y1 | none => none) = _
 cases Z4 600 (zh C, id, (3, t, b, 0, x)) <;> rfl
theorem zox (C : List (List RT7)) (id : Int) (b : ByteArray) (t : Int) : zkp 600 (zh C, id, b, t) = Z4 600 (zh C, id, (4, t, b, 0, zE)) := by
 show (match Z4 600 (zh C, id, (4, t, b, 0, zE)) with | some y1 => some y1 | none => none) = _
 cases Z4 600 (zh C, id, (4, t, b, 0, zE)) <;> rfl
theorem ztp (C : List (List RT7)) (id to : Int) (b : ByteArray) (t : Int) : zkq 600 (zh C, id, to, b, t) = Z4 600 (zh C, id, (5, t, b, to, zE)) := by
 show (match Z4 600 (zh C, id, (5, t, b, to, zE)) with | some y1 => some y1 | none => none) = _
 cases Z4 600 (zh C, id, (5, t, b, to, zE)) <;> rfl
theorem zmX (C : List (List RT7)) (id : Int) (b : ByteArray) (t : Int) : zkr 600 (zh C, id, b, t) = Z4 600 (zh C, id, (6, t, b, 0, zE)) := by
 show (match Z4 600 (zh C, id, (6, t, b, 0, zE)) with | some y1 => some y1 | none => none) = _
 cases Z4 600 (zh C, id, (6, t, b, 0, zE)) <;> rfl
theorem zAN {C : List (List RT7)} (hW : Wf C) (id to t : Int) {b : ByteArray} (hb : b.size <= 9223372036854775807) {x : RT0} (hx : Jf x) :
  (∃ D y, znw 600 (zh C, id, b, x, t) = some (zh D, y) /\ zko 600 (zh C, id, b, x, t) = some (zh D, y) /\ zbM 600 (zh D, zh D) = some true) /\
  (∃ D y, zrw 600 (zh C, id, b, t) = some (zh D, y) /\ zkp 600 (zh C, id, b, t) = some (zh D, y) /\ zbM 600 (zh D, zh D) = some true) /\
  (∃ D y, zrx 600 (zh C, id, to, b, t) = some (zh D, y) /\ zkq 600 (zh C, id, to, b, t) = some (zh D, y) /\ zbM 600 (zh D, zh D) = some true) /\
  (∃ D y, zry 600 (zh C, id, b, t) = some (zh D, y) /\ zkr 600 (zh C, id, b, t) = some (zh D, y) /\ zbM 600 (zh D, zh D) = some true) := by
 have hz : Jf zE := ⟨[], by decide, rfl⟩
 rw [zpd, zpf, zov, zox, ztn, ztp, zmV, zmX]
 have go : ∀ {k to : Int} {e1 : RT0}, (k = 3 \/ k = 4 \/ k = 5 \/ k = 6) -> Jf e1 -> (k ≠ 5 -> to = 0) -> ∃ D y, jW 600 (zh C, id, (k, t, b, to, e1)) = some (zh D, y) /\ Z4 600 (zh C, id, (k, t, b, to, e1)) = some (zh D, y) /\ zbM 600 (zh D, zh D) = some true := λ h1 h2 h3 => by
  obtain ⟨D, y, a1, a2, a3⟩ := zn7 hW id h1 hb h2 h3
  exact ⟨D, y, a2, a1, ztY a3⟩
 exact ⟨go (.inl rfl) hx λ _ => rfl, go (.inr (.inl rfl)) hz λ _ => rfl, go (.inr (.inr (.inl rfl))) hz λ h => absurd rfl h, go (.inr (.inr (.inr rfl))) hz λ _ => rfl⟩
end
section
def z9 (P : List RT1) : RT9 := ((⟨#[]⟩ : ByteArray), (⟨#[]⟩ : ByteArray), (⟨#[]⟩ : ByteArray), (⟨#[]⟩ : ByteArray), 0, 0, 0, 0, 0, P.map zj, 0, 0, 0, 0, 0, 0, 0, 0, 0, 0, 0, 0, 0, 0, 0, ())
theorem zoW (t : Int) {xs : List Int} (ht : 0 <= t /\ t <= 100000) : ∀ (m k f : Nat) (p : Int) (L : List RT1), k + m = 4 -> m < f -> Sc xs p -> L.length = k ->
  ∃ (L' : List RT1) (p' : Int), (jf 600).L f (1, t, (k : Int), zk xs, p, z8, z9 L) = some (t, zk xs, p', z8, z9 L') /\ (1 <= L'.length /\ L'.length <= 4) /\ Sc xs p' := by
 intro m
 induction m with
 | zero =>
  intro k f p L hk hf D hl
  obtain ⟨f, rfl⟩ := pS hf
  obtain ⟨v, p1, h1, m1, D1⟩ := jV 600 (n := 4) (by omega) D
  refine ⟨L, p1, ?_, by omega, D1⟩
  show (jf 600).b _ _ ((jf 600).L f) some = _
  simp only [jf]
  have e1 : i64 (1 + v) = 1 + v := zG (by omega)
  have e2 : decide ((k : Int) < 1 + v) = false := dF (by omega)
  simp only [h1, e1, e2]
 | succ m ih =>
  intro k f p L hk hf D hl
  obtain ⟨f, rfl⟩ := pS hf
  obtain ⟨v, p1, h1, m1, D1⟩ := jV 600 (n := 4) (by omega) D
  have e1 : i64 (1 + v) = 1 + v := zG (by omega)
  by_cases hc : (k : Int) < 1 + v
  ·obtain ⟨u, p2, h2, m2, D2⟩ := jV 600 (n := 3) (by omega) D1
   have hs := zq3 k (by omega)
   obtain ⟨q, hq⟩ : ∃ q : RT1, q = (AB, st k, LC, CH, t + 10, t + 10, t + 10 + u, 1, 0, ()) := ⟨_, rfl⟩
   obtain ⟨L', p', r1, r2, r3⟩ := ih (k + 1) f p2 (L ++ [q]) (by omega) (by omega) D2 (by simp [hl])
   refine ⟨L', p', ?_, r2, r3⟩
   show (jf 600).b _ _ ((jf 600).L f) some = _
   generalize (jf 600).L f = Lf at r1 |-
   simp only [jf]
   have e2 : decide ((k : Int) < 1 + v) = true := dT (by omega)
   have e3 : i64 (10 * 1) = 10 := by decide
   have e4 : i64 (t + 10) = t + 10 := zG (by omega)
   have e5 : i64 (t + 10 + u) = t + 10 + u := zG (by omega)
   have e6 : i64 ((k : Int) + 1) = ((k + 1 : Nat) : Int) := by rw [zG (by omega)]; omega
   have hb : ((L.map zj).length + [zj q].length) * 104 <= ze := by
    rw [List.length_map]; unfold ze; simp; omega
   have hz : (z9 L).2.2.2.2.2.2.2.2.2.1 = L.map zj := rfl
   simp only [h1, e1, e2, hs, h2, e3, e4, e5, e6, <- hq, hz]
   unfold z9 at r1 |-
   rw [List.map_append] at r1
   exact (if_pos hb).trans r1
  ·refine ⟨L, p1, ?_, by omega, D1⟩
   show (jf 600).b _ _ ((jf 600).L f) some = _
   simp only [jf]
   have e2 : decide ((k : Int) < 1 + v) = false := dF (by omega)
   simp only [h1, e1, e2]
theorem zs9 {xs : List Int} {p : Int} (D : Sc xs p) : ∃ (e : RT0) (p' : Int), zru 600 (1, zk xs, p) = some (e, zk xs, p') /\ Jf e /\ Sc xs p' := by
 obtain ⟨v, p1, h1, m1, D1⟩ := jV 600 (n := 300) (by omega) D
 have e1 : i64 (1000 + v) = 1000 + v := zG (by omega)
 obtain ⟨L, p2, h2, hl, D2⟩ := zoW (1000 + v) (by omega) 4 0 600 p1 [] rfl (by omega) D1 rfl
 obtain ⟨x, y, z, p3, h3, D3⟩ := zim D2
 obtain ⟨u4, p4, h4, m4, D4⟩ := jV 600 (n := 40) (by omega) D3
 obtain ⟨u5, p5, h5, m5, D5⟩ := zeC 600 [0, 0, 5, 500] (by simp) D4
 replace h5 : zcW 600 ([[AV.v (.int .i64 0)], [AV.v (.int .i64 0)], [AV.v (.int .i64 5)], [AV.v (.int .i64 500)]], zk xs, p4) = some (u5, zk xs, p5) := h5
 obtain ⟨u6, p6, h6, m6, D6⟩ := jV 600 (n := 3) (by omega) D5
 replace h2 : (jf 600).L 600 (1, 1000 + v, 0, zk xs, p1, z8, z9 []) = some (1000 + v, zk xs, p2, z8, z9 L) := h2
 unfold z8 z9 at h2
 simp only [List.map_nil] at h2
 simp only [zru, FSpec.d, zrv]
 have hg : (L.map zj)[(0 : Int).toNat]? = some (zj L[0]) := by show (L.map zj)[0]? = _; simp [show 0 < L.length by omega]
 have hz : (0 : Int) <= 0 := Int.le_refl _
 simp only [h1, e1, zpY, h2, hz, if_true, hg, zT, h3, h4, h5, h6]
 by_cases hc : u6 > 0
 ·obtain ⟨u7, p7, h7, m7, D7⟩ := jV 600 (n := 400) (by omega) D6
  obtain ⟨u8, p8, h8, m8, D8⟩ := jV 600 (n := 60) (by omega) D7
  simp only [hc, decide_true, h7, h8]
  exact ⟨_, _, rfl, ⟨L, by omega, rfl⟩, D8⟩
 ·simp only [hc, decide_false]
  exact ⟨_, _, rfl, ⟨L, by omega, rfl⟩, D6⟩
def zfJ (O : List ByteArray) : List (List AV) := O.map λ b => [.v (.string b)]
theorem zfK (O : List ByteArray) (k : Nat) (h : k < O.length) : (zfJ O)[k]? = some [.v (.string O[k])] := by simp [zfJ, h]
theorem zys (O : List ByteArray) {xs : List Int} {p : Int} (hO : 1 <= O.length /\ O.length <= 1000) (D : Sc xs p) : ∃ b p', Ji 600 (zfJ O, zk xs, p) = some (b, zk xs, p') /\ b ∈ O /\ Sc xs p' := by
 simp only [Ji, FSpec.d, zdW]
 obtain ⟨v, p', h1, h2, h3⟩ := jV 600 (n := (O.length : Int)) (by omega) D
 rw [show (zfJ O).length = O.length by simp [zfJ], h1]
 have h4 : v.toNat < O.length := by omega
 simp only [h2.1, if_true, zfK O _ h4, List.getElem?_cons_zero]
 exact ⟨_, _, rfl, List.getElem_mem h4, h3⟩
theorem zoA (e : RT0) : zz4 600 e = some (smE e) := by
 simp only [zz4, FSpec.d, zz5]
 unfold smE
 cases decide ((e.2.2.2.2.2.2.2.2.2.1.length : Int) <= 20) with
 | false => rfl
 | true => cases decide (e.2.2.2.2.2.2.2.2.2.2.2.2.2.1 > -1152921504606846976) <;> rfl
theorem VG.wf {T : Int} {n i : Nat} {v : RT7} (h : VG T n i v) : WfV v := by
 refine ⟨h.ev.pk, ?_⟩
 by_cases c : kdV v = 1 \/ kdV v = 2
 ·rw [h.by1 c]; decide
 ·have := h.by2 c
  unfold Per zcV at this
  simp only [Bool.and_eq_true, decide_eq_true_eq] at this
  omega
theorem CG.wf {T : Int} {m e : Nat} {C : List (List RT7)} (h : CG T m e C) (hm : m <= 100) (he : e <= 500) : Wf C := by
 refine ⟨Nat.le_trans h.le he, λ x hx => ?_, λ x hx v hv => ?_⟩
 ·obtain ⟨k, hk, rfl⟩ := List.getElem_of_mem hx
  exact Nat.le_trans (h.xs k hk).le hm
 ·obtain ⟨k, hk, rfl⟩ := List.getElem_of_mem hx
  obtain ⟨j, hj, rfl⟩ := List.getElem_of_mem hv
  exact ((h.xs k hk).vs j hj).wf
theorem CG.nes {T : Int} {m e : Nat} {C : List (List RT7)} (h : CG T m e C) : ∀ x ∈ C, x ≠ [] := λ x hx => by
 obtain ⟨k, hk, rfl⟩ := List.getElem_of_mem hx
 exact (h.xs k hk).ne
def Raw (e : RT0) : Prop := ∃ P : List RT1, pkE e = P.map zj
theorem Raw.pk {e : RT0} (h : Raw e) (hs : smE e = true) : Jf e := by
 obtain ⟨P, hP⟩ := h
 refine ⟨P, ?_, hP⟩
 unfold smE at hs
 simp only [Bool.and_eq_true, decide_eq_true_eq] at hs
 have := hs.1
 rw [show e.2.2.2.2.2.2.2.2.2.1 = P.map zj from hP, List.length_map] at this
 omega
theorem zyd {C : List (List RT7)} (h : ∀ x ∈ C, ∀ v ∈ x, Raw (evV v) /\ (byV v).size <= 9223372036854775807) (hs : smC C = true) : Wf C := by
 unfold smC at hs
 simp only [Bool.and_eq_true, decide_eq_true_eq, List.all_eq_true] at hs
 obtain ⟨h1, h2⟩ := hs
 have hx : ∀ x ∈ C, x.length <= 20 /\ ∀ v ∈ x, smE (evV v) = true := λ x hx => by
  have := h1 x hx
  unfold smX at this
  simp only [Bool.and_eq_true, List.all_eq_true, Bool.not_eq_true', decide_eq_false_iff_not] at this
  exact ⟨by omega, this.2⟩
 exact ⟨by omega, λ x hm => Nat.le_trans (hx x hm).1 (by omega), λ x hm v hv => ⟨(h x hm v hv).1.pk ((hx x hm).2 v hv), (h x hm v hv).2⟩⟩
end
section
set_option maxHeartbeats 1000000
def zm0 (L : List (List (List RT7))) : List (List AV) := L.map λ C => [AV.list 1 (zh C) none]
theorem zm1 (L : List (List (List RT7))) (k : Nat) (h : k < L.length) : (zm0 L)[k]? = some (zxc (zh L[k], ())) := by
 simp only [zm0, List.getElem?_map, List.getElem?_eq_getElem h]; rfl
theorem w_48 (C3 ids names times : List (List AV)) (id into : Int) (by_ : ByteArray) (nowP nowG idj : Int) (nm : ByteArray) (t to n i n2 j n3 k n4 l : Int) (c : Bool) (x : RT0) (C : List (List AV)) (e : RT0) (R : List (List AV)) (p : Int) :
  zqb 600 (C3, ids, names, times, id, into, by_, nowP, nowG, idj, nm, t, to, n, i, n2, j, n3, k, n4, l, c, x, C, e, R, p) = some (C3, ids, names, times, id, into, by_, nowP, nowG, idj, nm, t, to, n, i, n2, j, n3, k, n4, l, x, C, (if c then x else e), R, p) := by
 show (zai 600).b _ _ ((zai 600).L 599) some = _
 simp only [zai]
 cases c <;> rfl
theorem zym (C3 ids names : List (List AV)) (id into : Int) (by_ : ByteArray) (nowP nowG idj : Int) {nm : ByteArray} (hnm : nm.size <= 9223372036854775807) (n i n2 j n3 k : Int) {x : RT0} (hx : Jf x) {C : List (List RT7)} (hW : Wf C) (ts : List Int) (hts : ts.length <= 10) {xs : List Int} :
  ∀ (d l f : Nat) (p : Int), l + d = ts.length -> d < f -> Sc xs p -> ∃ p', (jh 600).L f (C3, ids, names, zk ts, id, into, by_, nowP, nowG, idj, nm, n, i, n2, j, n3, k, (ts.length : Int), (l : Int), x, zh C, zk xs, p) = some (.inr (C3, ids, names, id, into, by_, nowP, nowG, idj, n, i, n2, j, n3, k, x, zh C, zk xs, p')) /\ Sc xs p' := by
 intro d
 induction d with
 | zero =>
  intro l f p hl hf D
  obtain ⟨f, rfl⟩ := pS hf
  refine ⟨p, ?_, D⟩
  show (jh 600).b _ _ ((jh 600).L f) some = _
  have e2 : decide ((l : Int) < (ts.length : Int)) = false := dF (by omega)
  simp only [jh]
  simp only [e2]
 | succ d ih =>
  intro l f p hl hf D
  obtain ⟨f, rfl⟩ := pS hf
  have hkl : l < ts.length := by omega
  obtain ⟨to, p1, g1, m1, D1⟩ := zeC 600 [into, 0, 1, 2, idj] (by simp) D
  replace g1 : zcW 600 ([[AV.v (.int .i64 into)], [AV.v (.int .i64 0)], [AV.v (.int .i64 1)], [AV.v (.int .i64 2)], [AV.v (.int .i64 idj)]], zk xs, p) = some (to, zk xs, p1) := g1
  obtain ⟨e, p2, g2, hpe, D2⟩ := zs9 D1
  obtain ⟨c, p3, g3, m3, D3⟩ := jV 600 (n := 3) (by omega) D2
  obtain ⟨p', r1, r2⟩ := ih (l + 1) f p3 (by omega) (by omega) D3
  refine ⟨p', ?_, r2⟩
  show (jh 600).b _ _ ((jh 600).L f) some = _
  generalize (jh 600).L f = Lf at r1 |-
  have e2 : decide ((l : Int) < (ts.length : Int)) = true := dT (by omega)
  have h0 : 0 <= (l : Int) := by omega
  obtain ⟨ev, hev, hpk⟩ : ∃ ev, ev = (if (c == 0) = true then x else e) /\ Jf ev := ⟨_, rfl, by split <;> assumption⟩
  obtain ⟨⟨A1, y1, a1, a2, a3⟩, ⟨A2, y2, b1, b2, b3⟩, ⟨A3, y3, c1, c2, c3⟩, ⟨A4, y4, d1, d2, d3⟩⟩ := zAN hW idj to ts[l] hnm hpk
  have d0 : ∀ i : Int, (i != i) = false := λ i => by simp
  have hI : zk ts = ts.map λ x => [I x] := rfl
  simp only [jh]
  simp only [e2, h0, if_true, Int.toNat_natCast, JA ts l hkl, List.getElem?_cons_zero, g1, g2, g3, w_48, <- hev, a1, a2, b1, b2, c1, c2, d1, d2, d0, a3, b3, c3, d3, Bool.not_true, zi (show l < 1000000 by omega)]
  exact r1
theorem zxN (C3 ids : List (List AV)) (id into : Int) (by_ : ByteArray) (nowP nowG idj : Int) (n i n2 j : Int) {x : RT0} (hx : Jf x) {C : List (List RT7)} (hW : Wf C) (ns : List ByteArray) (hns : ns.length <= 10) (hnm : ∀ b ∈ ns, b.size <= 9223372036854775807) {xs : List Int} :
  ∀ (d k f : Nat) (p : Int), k + d = ns.length -> d < f -> Sc xs p -> ∃ p', (jg 600).L f (C3, ids, zfJ ns, id, into, by_, nowP, nowG, idj, n, i, n2, j, (ns.length : Int), (k : Int), x, zh C, zk xs, p) = some (.inr (C3, ids, id, into, by_, nowP, nowG, n, i, n2, j, x, zh C, zk xs, p')) /\ Sc xs p' := by
 intro d
 induction d with
 | zero =>
  intro k f p hl hf D
  obtain ⟨f, rfl⟩ := pS hf
  refine ⟨p, ?_, D⟩
  show (jg 600).b _ _ ((jg 600).L f) some = _
  have e2 : decide ((k : Int) < (ns.length : Int)) = false := dF (by omega)
  simp only [jg]
  simp only [e2]
 | succ d ih =>
  intro k f p hl hf D
  obtain ⟨f, rfl⟩ := pS hf
  have hkl : k < ns.length := by omega
  obtain ⟨a, p1, g1, m1, D1⟩ := jV 600 (n := 20) (by omega) D
  obtain ⟨b, p2, g2, m2, D2⟩ := jV 600 (n := 60) (by omega) D1
  obtain ⟨p3, g3, D3⟩ := zym C3 ids (zfJ ns) id into by_ nowP nowG idj (hnm _ (List.getElem_mem hkl)) n i n2 j (ns.length : Int) (k : Int) hx hW [nowP, i64 (nowG + a), i64 (nowG - b)] (by simp) 3 0 600 p2 rfl (by omega) D2
  replace g3 : (jh 600).L 600 (C3, ids, zfJ ns, [[AV.v (.int .i64 nowP)], [AV.v (.int .i64 (i64 (nowG + a)))], [AV.v (.int .i64 (i64 (nowG - b)))]], id, into, by_, nowP, nowG, idj, ns[k], n, i, n2, j, (ns.length : Int), (k : Int), (([[AV.v (.int .i64 nowP)], [AV.v (.int .i64 (i64 (nowG + a)))], [AV.v (.int .i64 (i64 (nowG - b)))]] : List (List AV)).length : Int), 0, x, zh C, zk xs, p2) = _ := g3
  obtain ⟨p', r1, r2⟩ := ih (k + 1) f p3 (by omega) (by omega) D3
  refine ⟨p', ?_, r2⟩
  show (jg 600).b _ _ ((jg 600).L f) some = _
  generalize (jg 600).L f = Lf at r1 |-
  have e2 : decide ((k : Int) < (ns.length : Int)) = true := dT (by omega)
  have h0 : 0 <= (k : Int) := by omega
  simp only [jg]
  simp only [e2, h0, if_true, Int.toNat_natCast, zfK ns k hkl, List.getElem?_cons_zero, g1, g2, zqa, g3, zi (show k < 1000000 by omega)]
  exact r1
def tx6 : List ByteArray := [⟨#[97, 110, 110]⟩, ⟨#[98, 111, 98]⟩, ⟨#[]⟩, ⟨#[65, 110, 110]⟩, ⟨#[97, 98, 99, 100, 101, 102, 103, 104, 105, 106, 107, 108, 109, 110, 111, 112]⟩, ⟨#[97, 98, 99, 100, 101, 102, 103, 104, 105, 106, 107, 108, 109, 110, 111, 112, 113]⟩]
theorem zxC (C3 : List (List AV)) (id into : Int) {by_ : ByteArray} (hby : by_.size <= 40) (nowP nowG : Int) (n i : Int) {x : RT0} (hx : Jf x) {C : List (List RT7)} (hW : Wf C) (is : List Int) (his : is.length <= 10) {xs : List Int} :
  ∀ (d j f : Nat) (p : Int), j + d = is.length -> d < f -> Sc xs p -> ∃ p', (j8 600).L f (C3, zk is, id, into, by_, nowP, nowG, n, i, (is.length : Int), (j : Int), x, zh C, zk xs, p) = some (.inr (C3, id, into, by_, nowP, nowG, n, i, x, zk xs, p')) /\ Sc xs p' := by
 intro d
 induction d with
 | zero =>
  intro k f p hl hf D
  obtain ⟨f, rfl⟩ := pS hf
  refine ⟨p, ?_, D⟩
  show (j8 600).b _ _ ((j8 600).L f) some = _
  have e2 : decide ((k : Int) < (is.length : Int)) = false := dF (by omega)
  simp only [j8]
  simp only [e2]
 | succ d ih =>
  intro k f p hl hf D
  obtain ⟨f, rfl⟩ := pS hf
  have hkl : k < is.length := by omega
  obtain ⟨b, p1, g1, m1, D1⟩ := zys tx6 (by simp [tx6]) D
  unfold tx6 at m1
  replace g1 : Ji 600 (([[AV.v (.string (⟨#[97, 110, 110]⟩ : ByteArray))], [AV.v (.string (⟨#[98, 111, 98]⟩ : ByteArray))], [AV.v (.string (⟨#[]⟩ : ByteArray))], [AV.v (.string (⟨#[65, 110, 110]⟩ : ByteArray))], [AV.v (.string (⟨#[97, 98, 99, 100, 101, 102, 103, 104, 105, 106, 107, 108, 109, 110, 111, 112]⟩ : ByteArray))], [AV.v (.string (⟨#[97, 98, 99, 100, 101, 102, 103, 104, 105, 106, 107, 108, 109, 110, 111, 112, 113]⟩ : ByteArray))]] : List (List AV)), zk xs, p) = some (b, zk xs, p1) := g1
  have hb : b.size <= 17 := by
   simp only [List.mem_cons, List.not_mem_nil, or_false] at m1
   rcases m1 with rfl | rfl | rfl | rfl | rfl | rfl <;> decide
  obtain ⟨p2, g2, D2⟩ := zxN C3 (zk is) id into by_ nowP nowG is[k] n i (is.length : Int) (k : Int) hx hW [by_, b] (by simp) (λ y hy => by
   simp only [List.mem_cons, List.not_mem_nil, or_false] at hy
   rcases hy with rfl | rfl <;> omega) 2 0 600 p1 rfl (by omega) D1
  replace g2 : (jg 600).L 600 (C3, zk is, [[AV.v (.string by_)], [AV.v (.string b)]], id, into, by_, nowP, nowG, is[k], n, i, (is.length : Int), (k : Int), (([[AV.v (.string by_)], [AV.v (.string b)]] : List (List AV)).length : Int), 0, x, zh C, zk xs, p1) = _ := g2
  obtain ⟨p', r1, r2⟩ := ih (k + 1) f p2 (by omega) (by omega) D2
  refine ⟨p', ?_, r2⟩
  show (j8 600).b _ _ ((j8 600).L f) some = _
  generalize (j8 600).L f = Lf at r1 |-
  have e2 : decide ((k : Int) < (is.length : Int)) = true := dT (by omega)
  have h0 : 0 <= (k : Int) := by omega
  simp only [j8]
  simp only [e2, h0, if_true, Int.toNat_natCast, JA is k hkl, List.getElem?_cons_zero, g1, zp9, g2, zi (show k < 1000000 by omega)]
  exact r1
theorem zxm (L : List (List (List RT7))) (hL : ∀ C ∈ L, Wf C) (hl : L.length <= 10) (id into : Int) {by_ : ByteArray} (hby : by_.size <= 40) (nowP nowG : Int) {x : RT0} (hx : Jf x) {xs : List Int} :
  ∀ (d i f : Nat) (p : Int), i + d = L.length -> d < f -> Sc xs p -> (j7 600).L f (zm0 L, id, into, by_, nowP, nowG, (L.length : Int), (i : Int), x, zk xs, p) = some (.inr ()) := by
 intro d
 induction d with
 | zero =>
  intro k f p hl hf D
  obtain ⟨f, rfl⟩ := pS hf
  show (j7 600).b _ _ ((j7 600).L f) some = _
  have e2 : decide ((k : Int) < (L.length : Int)) = false := dF (by omega)
  simp only [j7]
  simp only [e2]
 | succ d ih =>
  intro k f p hl hf D
  obtain ⟨f, rfl⟩ := pS hf
  have hkl : k < L.length := by omega
  obtain ⟨a, p1, g1, m1, D1⟩ := jV 600 (n := 4) (by omega) D
  obtain ⟨p2, g2, D2⟩ := zxC (zm0 L) id into hby nowP nowG (L.length : Int) (k : Int) hx (hL _ (List.getElem_mem hkl)) [id, a, -1] (by simp) 3 0 600 p1 rfl (by omega) D1
  replace g2 : (j8 600).L 600 (zm0 L, [[AV.v (.int .i64 id)], [AV.v (.int .i64 a)], [AV.v (.int .i64 (-1))]], id, into, by_, nowP, nowG, (L.length : Int), (k : Int), (([[AV.v (.int .i64 id)], [AV.v (.int .i64 a)], [AV.v (.int .i64 (-1))]] : List (List AV)).length : Int), 0, x, zh L[k], zk xs, p1) = _ := g2
  have r1 := ih (k + 1) f p2 (by omega) (by omega) D2
  show (j7 600).b _ _ ((j7 600).L f) some = _
  generalize (j7 600).L f = Lf at r1 |-
  have e2 : decide ((k : Int) < (L.length : Int)) = true := dT (by omega)
  have h0 : 0 <= (k : Int) := by omega
  simp only [j7]
  simp only [e2, h0, if_true, Int.toNat_natCast, zm1 L k hkl, zn4, g1, zp8, g2, zi (show k < 1000000 by omega)]
  exact r1
theorem zsN {C : List (List RT7)} (hS : Sz C) (hC : ∀ x ∈ C, ∀ v ∈ x, Raw (evV v) /\ (byV v).size <= 9223372036854775807) (id into : Int) (by_ : ByteArray) {x : RT0} (hx : Raw x) (now : Int) (l : List Int) : zBr 600 (zh C, id, into, by_, x, now, zk l) = some true := by
 obtain ⟨n1, D⟩ := zxS 600 l
 have hs := zpp hS
 have he := zoA x
 have ha := zob
 simp only [zBr, FSpec.d, zzm]
 cases hc : smC C with
 | false =>
  rw [hc] at hs
  simp only [hs, Bool.not_false, ha]
 | true =>
 rw [hc] at hs
 have hW := zyd hC hc
 cases hy : smE x with
 | false =>
  rw [hy] at he
  simp only [hs, he, Bool.not_true, Bool.not_false, ha]
 | true =>
 rw [hy] at he
 have hpk := hx.pk hy
 by_cases hb : (by_.size : Int) > 40
 ·simp only [hs, he, Bool.not_true, hb, decide_true, ha]
 obtain ⟨v, p1, g1, m1, D1⟩ := jV 600 (n := 8) (by omega) D
 obtain ⟨m, rfl⟩ : ∃ m : Nat, v = (m : Int) := ⟨v.toNat, by omega⟩
 have e1 : i64 (2 + (m : Int)) = ((m + 2 : Nat) : Int) := by rw [zG (by omega)]; omega
 obtain ⟨G, t, p2, g2, D2, -, -, hG⟩ := zoH D1 (m + 2) (by omega)
 obtain ⟨B, p3, g3, hB, D3⟩ := zsU (hG.wf (by omega) (by omega)) hG.nes D2
 have r := zxm [C, G, B] (λ Y hY => by
  simp only [List.mem_cons, List.not_mem_nil, or_false] at hY
  rcases hY with rfl | rfl | rfl
  ·exact hW
  ·exact hG.wf (by omega) (by omega)
  ·exact hB) (by simp) id into (by_ := by_) (by omega) now t hpk 3 0 600 p3 rfl (by omega) D3
 replace r : (j7 600).L 600 ([[AV.list 1 (zh C) none], [AV.list 1 (zh G) none], [AV.list 1 (zh B) none]], id, into, by_, now, t, (([[AV.list 1 (zh C) none], [AV.list 1 (zh G) none], [AV.list 1 (zh B) none]] : List (List AV)).length : Int), 0, x, zk (l.take 2000), p3) = some (.inr ()) := r
 simp only [hs, he, Bool.not_true, hb, decide_false, n1, g1, e1, g2, g3, zp7, r, ha]
end
section
open Go.ChangeShapes Go.WideShapes Go.ChangeAt Go.RowKit Go.Deep
inductive Leaf where
 | int (k : IntKind)
 | str
 | bool
 | sl (t : TypeId)
 deriving DecidableEq
def AllOk (R : Leaf -> Value -> Prop) : List Leaf -> List Value -> Prop
 | [], [] => True
 | l :: ls, v :: vs => R l v /\ AllOk R ls vs
 | _, _ => False
theorem AllOk.cons {R : Leaf -> Value -> Prop} {l : Leaf} {ls : List Leaf} {cs : List Value} (h : AllOk R (l :: ls) cs) : ∃ v vs, cs = v :: vs /\ R l v /\ AllOk R ls vs := by
 match cs, h with
 | v :: vs, h => exact ⟨v, vs, rfl, h.1, h.2⟩
theorem AllOk.nil {R : Leaf -> Value -> Prop} {cs : List Value} (h : AllOk R [] cs) : cs = [] := by
 match cs, h with
 | [], _ => rfl
theorem AllOk.len {R : Leaf -> Value -> Prop} : ∀ {ls : List Leaf} {cs : List Value}, AllOk R ls cs -> cs.length = ls.length
 | [], [], _ => rfl
 | _ :: _, _ :: _, h => by simp [AllOk.len h.2]
 | [], _ :: _, h => h.elim
 | _ :: _, [], h => h.elim
theorem AllOk.append {R : Leaf -> Value -> Prop} : ∀ {l1 l2 : List Leaf} {c1 c2 : List Value}, AllOk R l1 c1 -> AllOk R l2 c2 -> AllOk R (l1 ++ l2) (c1 ++ c2)
 | [], _, [], _, _, h => h
 | _ :: _, _, _ :: _, _, h, h2 => ⟨h.1, AllOk.append h.2 h2⟩
 | [], _, _ :: _, _, h, _ => h.elim
 | _ :: _, _, [], _, h, _ => h.elim
section
variable (P : Program)
def zct (rec : TypeId -> Option (List Leaf)) : List Field -> Nat -> Option (List Leaf)
 | [], _ => some []
 | f :: fs, off => if f.offset = off then
   match rec f.type with
   | some l => if P.cellsOf f.type = l.length then (zct rec fs (off + l.length)).map (l ++ ·) else none
   | none => none
  else none
def zcE : Nat -> TypeId -> Option (List Leaf)
 | 0, _ => none
 | n + 1, t => match P.underlying t with
  | some (.int k) => some [.int k]
  | some .string => some [.str]
  | some .bool => some [.bool]
  | some (.slice _) => some [.sl t]
  | some (.struct fs) => match zct P (zcE n) fs.toList 0 with
   | some ls => if P.cellsOf t = ls.length then some ls else none
   | none => none
  | _ => none
end
section
variable {H : Type} {enc : TypeId × Value -> H} {P : Program} {w : World} {base : Nat} {spare : Nat -> Bool} {held : Bool}
def Jc (enc : TypeId × Value -> H) (P : Program) (w : World) (base : Nat) (spare : Nat -> Bool) (held : Bool) : Leaf -> Value -> Prop
 | .int k, v => ∃ n, v = .int k n /\ (Lit.int k n).wf = true
 | .str, v => ∃ s : ByteArray, v = .string s /\ s.size <= maxLen
 | .bool, v => ∃ b, v = .bool b
 | .sl t, v => ∃ n y, DataW.trod enc P w base spare held n t [v] = some y
theorem zfm {rec : TypeId -> Option (List Leaf)} {R : Leaf -> Value -> Prop} {cs : List Value} : ∀ (fs : List Field) (off : Nat) (ls : List Leaf), zct P rec fs off = some ls ->
  (∀ f ∈ fs, ∀ l, rec f.type = some l -> P.cellsOf f.type = l.length -> AllOk R l ((cs.drop f.offset).take l.length)) -> AllOk R ls ((cs.drop off).take ls.length)
 | [], off, ls, h, _ => by
  simp only [zct, Option.some.injEq] at h
  subst h
  simp [AllOk]
 | f :: fs, off, ls, h, hf => by
  unfold zct at h
  split at h
  ·rename_i ho
   split at h
   ·rename_i l hl
    split at h
    ·rename_i hc
     simp only [Option.map_eq_some_iff] at h
     obtain ⟨r, hr, rfl⟩ := h
     have h1 := hf f List.mem_cons_self l hl hc
     have h2 := zfm fs (off + l.length) r hr (λ g hg => hf g (List.mem_cons_of_mem _ hg))
     rw [List.length_append, List.take_add, List.drop_drop]
     rw [ho] at h1
     exact h1.append h2
    ·cases h
   ·cases h
  ·cases h
theorem zab : ∀ (n : Nat) (t : TypeId) (ls : List Leaf) (fuel : Nat) (cs : List Value) (x : DataW H × List MemPlace), zcE P n t = some ls -> DataW.trod enc P w base spare held fuel t cs = some x -> AllOk (Jc enc P w base spare held) ls cs
 | 0, t, ls, fuel, cs, x, hl, _ => by simp [zcE] at hl
 | n + 1, t, ls, fuel, cs, x, hl, h => by
  unfold zcE at hl
  split at hl
  ·rename_i k hu
   obtain rfl : [Leaf.int k] = ls := by injection hl
   obtain ⟨m, rfl, -, hw⟩ := DataW.trod_int hu h
   exact ⟨⟨m, rfl, hw⟩, trivial⟩
  ·rename_i hu
   obtain rfl : [Leaf.str] = ls := by injection hl
   obtain ⟨s, rfl, -, hw⟩ := DataW.trod_string hu h
   exact ⟨⟨s, rfl, hw⟩, trivial⟩
  ·rename_i hu
   obtain rfl : [Leaf.bool] = ls := by injection hl
   obtain ⟨s, rfl, -⟩ := DataW.trod_bool hu h
   exact ⟨⟨s, rfl⟩, trivial⟩
  ·rename_i e hu
   obtain rfl : [Leaf.sl t] = ls := by injection hl
   have h2 := h
   rcases DataW.trod_slice hu h with ⟨rfl, -⟩ | ⟨a, len, cap, el, re, m, -, rfl, -⟩
   ·exact ⟨⟨fuel, x, h2⟩, trivial⟩
   ·exact ⟨⟨fuel, x, h2⟩, trivial⟩
  ·rename_i fs hu
   split at hl
   ·rename_i l hfl
    split at hl
    ·rename_i hc
     obtain rfl : l = ls := by injection hl
     obtain ⟨xs, m, rfl, -, hlen, hxl, hf⟩ := DataW.trod_struct hu h
     have := zfm (R := Jc enc P w base spare held) (cs := cs) fs.toList 0 l hfl (λ f hfm k hk hkc => by
      obtain ⟨i, hi, hif⟩ := List.getElem_of_mem hfm
      have h1 := hf i f (by rw [<- Array.getElem?_toList, List.getElem?_eq_getElem hi, hif])
      rw [List.getElem?_eq_getElem (by rw [hxl]; simpa using hi), hkc] at h1
      exact zab n f.type k m _ _ hk h1)
     rw [List.drop_zero, <- hc, <- hlen, List.take_length] at this
     exact this
    ·cases hl
   ·cases hl
  ·cases hl
theorem zqE {r : Reach} {b0 n : Nat} {t : TypeId} {fs : Array Field} {v : Value} {d : DataW H} {p : List MemPlace} {ls : List Leaf} (hs : P.underlying t = some (.struct fs)) (hl : zcE P n t = some ls) (hv : Value.okWide P w r b0 t v) (h : DataW.Trod enc P w base spare held t v d p) :
  ∃ cs : List Value, v = .agg cs.toArray /\ AllOk (Jc enc P w base spare held) ls cs := by
 obtain ⟨cs, rfl, -⟩ := okWide_struct hs hv
 obtain ⟨fuel, hf⟩ := h
 exact ⟨cs.toList, by simp, zab n t ls fuel _ _ hl hf⟩
theorem zpl {n fuel : Nat} {t e : TypeId} {cs : List Value} {x : DataW H × List MemPlace} {ls : List Leaf} (hs : P.underlying t = some (.slice e)) (hl : zcE P n e = some ls) (hc : P.cellsOf e = ls.length) (h0 : 0 < ls.length) (h : DataW.trod enc P w base spare held fuel t cs = some x) :
  ∃ (a : Option Addr) (len cap : Nat), cs = [.slice a len cap] /\ len <= cap /\ cap <= 9223372036854775807 /\ (a = none -> len = 0 /\ cap = 0) /\ (len = 0 \/ ∃ b off, a = some ⟨b, off, none⟩ /\ ∀ i, i < len -> ∃ vs : List Value, (∀ j v, vs[j]? = some v -> w.cell? ⟨b, off + i * ls.length + j, none⟩ = some v) /\ AllOk (Jc enc P w base spare held) ls vs) := by
 rcases DataW.trod_slice hs h with ⟨rfl, -⟩ | ⟨a, len, cap, el, re, m, -, rfl, -, -, hlc, hm, hel, hi, -⟩
 ·exact ⟨none, 0, 0, rfl, by omega, by omega, λ _ => ⟨rfl, rfl⟩, .inl rfl⟩
 ·refine ⟨some a, len, cap, rfl, hlc, by unfold maxLen at hm; omega, λ hn => (by cases hn), ?_⟩
  by_cases hz : len = 0
  ·exact .inl hz
  ·right
   have hall : ∀ i, i < len -> ∃ vs : List Value, (∀ j, j < ls.length -> w.cell? ((a.add (i * ls.length)).add j) = vs[j]?) /\ AllOk (Jc enc P w base spare held) ls vs := by
    intro i hil
    have h1 := hi i hil
    rw [List.getElem?_eq_getElem (by omega), hc] at h1
    obtain ⟨vs, hv1, hv2⟩ := Option.bind_eq_some_iff.1 h1
    obtain ⟨-, hvl, hvc⟩ := World.cells?_some hv1
    exact ⟨vs, λ j hj => hvc j hj, zab n e ls m _ _ hl hv2⟩
   obtain ⟨vs0, h1, h2⟩ := hall 0 (by omega)
   have hl0 := h2.len
   have hc0 := h1 0 h0
   rw [List.getElem?_eq_getElem (by omega)] at hc0
   obtain ⟨b, off, spot⟩ := a
   have hspot : spot = none := by simpa [Addr.add] using World.cell?_spot hc0
   subst hspot
   refine ⟨b, off, rfl, λ i hil => ?_⟩
   obtain ⟨vs, hv1, hv2⟩ := hall i hil
   refine ⟨vs, λ j v hj => ?_, hv2⟩
   have hjl : j < vs.length := (List.getElem?_eq_some_iff.1 hj).1
   have hvl := hv2.len
   have := hv1 j (by omega)
   rw [hj] at this
   rw [<- this]
   congr 1
   by_cases hi0 : i * ls.length = 0
   ·by_cases hj0 : j = 0
    ·subst hj0; simp [Addr.add, hi0]
    ·simp [Addr.add, hi0, hj0]
   ·by_cases hj0 : j = 0
    ·subst hj0; simp [Addr.add, hi0]
    ·simp [Addr.add, hi0, hj0]
end
end
section
open Go.ChangeShapes Go.WideShapes Go.ChangeAt Go.RowKit Go.Deep
inductive Lk (M : Mem) (R : Leaf -> Value -> Prop) (Q : (k : Ck) -> CkT k -> Prop) : List Ck -> List Leaf -> Prop
 | nil : Lk M R Q [] []
 | cons {k : Ck} {ks : List Ck} {l : Leaf} {ls : List Leaf} (h : ∀ v, R l v -> ∃ a : CkT k, Q k a /\ Rd M Jy jS v (zfj k a) /\ v.oneCell' = true) (t : Lk M R Q ks ls) : Lk M R Q (k :: ks) (l :: ls)
def zq7 (Q : (k : Ck) -> CkT k -> Prop) : (ks : List Ck) -> Tp ks -> Prop
 | [], _ => True
 | k :: ks, e => Q k e.1 /\ zq7 Q ks e.2
theorem Lk.len {M : Mem} {R : Leaf -> Value -> Prop} {Q : (k : Ck) -> CkT k -> Prop} {ks : List Ck} {ls : List Leaf} (h : Lk M R Q ks ls) : ks.length = ls.length := by
 induction h with
 | nil => rfl
 | cons _ _ ih => simp [ih]
theorem zq2 {M : Mem} {R : Leaf -> Value -> Prop} {Q : (k : Ck) -> CkT k -> Prop} {ks : List Ck} {ls : List Leaf} (h : Lk M R Q ks ls) : ∀ {vs : List Value}, AllOk R ls vs -> ∃ e : Tp ks, zq7 Q ks e /\ vs.length = ks.length /\ (Go.Proofs.YthdgnfcbehcplaaGreatDoor.enc ks e).length = ks.length /\ ∀ j (h : j < vs.length) (h' : j < (Go.Proofs.YthdgnfcbehcplaaGreatDoor.enc ks e).length), Rd M Jy jS vs[j] (Go.Proofs.YthdgnfcbehcplaaGreatDoor.enc ks e)[j] /\ (vs[j]).oneCell' = true := by
 induction h with
 | nil =>
  intro vs ha
  obtain rfl := AllOk.nil ha
  exact ⟨(), trivial, rfl, rfl, λ j h => by cases h⟩
 | cons hk _ ih =>
  intro vs ha
  obtain ⟨v, r, rfl, h1, h2⟩ := AllOk.cons ha
  obtain ⟨a, q1, q2, q3⟩ := hk v h1
  obtain ⟨e, e1, e2, e3, e4⟩ := ih h2
  refine ⟨(a, e), ⟨q1, e1⟩, by simp [e2], by simp [Go.Proofs.YthdgnfcbehcplaaGreatDoor.enc, e3], λ j h h' => ?_⟩
  cases j with
  | zero => exact ⟨q2, q3⟩
  | succ j => exact e4 j (by simpa using h) (by simpa [Go.Proofs.YthdgnfcbehcplaaGreatDoor.enc] using h')
theorem zgQ {α : Type} {p : Nat -> α -> Prop} : ∀ (n : Nat), (∀ i, i < n -> ∃ e, p i e) -> ∃ L : List α, L.length = n /\ ∀ i (h : i < L.length), p i L[i]
 | 0, _ => ⟨[], rfl, λ i h => by cases h⟩
 | n + 1, h => by
  obtain ⟨L, h1, h2⟩ := zgQ n λ i hi => h i (by omega)
  obtain ⟨e, he⟩ := h n (by omega)
  refine ⟨L ++ [e], by simp [h1], λ i hi => ?_⟩
  rw [List.getElem_append]
  split
  ·exact h2 i _
  ·simp at hi
   have : i = n := by omega
   subst this
   simpa using he
section
variable {H : Type} {en : TypeId × Value -> H} {P : Program} {w : World} {base : Nat} {held : Bool}
theorem zt3 {t e : TypeId} {fuel len cap : Nat} {ad : Addr} {y : DataW H × List MemPlace} (hs : P.underlying t = some (.slice e)) (hc : 0 < P.cellsOf e) (h : DataW.trod en P w base (λ _ => true) held fuel t [.slice (some ad) len cap] = some y) : cap = 0 \/ ad.spot = none := by
 rcases DataW.trod_slice hs h with ⟨hcs, -⟩ | ⟨a, l, c, el, re, m, -, hcs, -, -, hlc, hm, hel, hi, hsp, -⟩
 ·cases hcs
 ·injection hcs with hcs _
  injection hcs with h1 h2 h3
  injection h1 with h1
  subst h1 h2 h3
  by_cases h0 : cap = 0
  ·exact .inl h0
  ·refine .inr ?_
   have key : ∀ (q : Nat) (z : DataW H × List MemPlace), q = 0 -> (w.cells? base (ad.add (q * P.cellsOf e)) (P.cellsOf e)).bind (DataW.trod en P w base (λ _ => true) held m e) = some z -> ad.spot = none := λ q z hq hz => by
    subst hq
    obtain ⟨vs, hv1, -⟩ := Option.bind_eq_some_iff.1 hz
    obtain ⟨-, hvl, hvc⟩ := World.cells?_some hv1
    have h1 := hvc 0 hc
    rw [List.getElem?_eq_getElem (by omega)] at h1
    simpa [Addr.add] using World.cell?_spot h1
   by_cases h1 : len = 0
   ·obtain ⟨q1, q2⟩ := hsp rfl
    have h2 := q2 0 (by omega)
    rw [List.getElem?_eq_getElem (by omega)] at h2
    exact key _ _ (by omega) h2
   ·have h2 := hi 0 (by omega)
    rw [List.getElem?_eq_getElem (by omega)] at h2
    exact key _ _ rfl h2
theorem zgP {Q : (k : Ck) -> CkT k -> Prop} {ks : List Ck} {ls : List Leaf} {t e : TypeId} {fuel n : Nat} {v : Value} {y : DataW H × List MemPlace} (hk : Lk (ZX w) (Jc en P w base (λ _ => true) held) Q ks ls) (h0 : 0 < ls.length) (hs : P.underlying t = some (.slice e)) (hl : zcE P n e = some ls) (hc : P.cellsOf e = ls.length) (h : DataW.trod en P w base (λ _ => true) held fuel t [v] = some y) :
  ∃ L : List (Tp ks), L.length <= 9223372036854775807 /\ (∀ e ∈ L, zq7 Q ks e) /\ v.oneCell' = true /\ ∀ ρ σ, Rd (ZX w) ρ σ v (.list ks.length (L.map (Go.Proofs.YthdgnfcbehcplaaGreatDoor.enc ks)) none) := by
 obtain ⟨a, len, cap, hcs, hlc, hm, hn, hz⟩ := zpl hs hl hc h0 h
 injection hcs with hcs _
 subst hcs
 have hkl := hk.len
 rcases hz with hz | ⟨b, off, rfl, hi⟩
 ·subst hz
  refine ⟨[], by simp, λ e he => (by cases he), rfl, λ ρ σ => ?_⟩
  cases a with
  | none => obtain ⟨-, rfl⟩ := hn rfl; exact .nil
  | some ad =>
   rcases zt3 hs (by omega) h with rfl | hsp
   ·exact .nil (.inr rfl)
   ·obtain ⟨b, o, sp⟩ := ad
    dsimp only at hsp
    subst hsp
    exact .list (λ _ _ => .bool true) rfl hlc (λ i h => by cases h) (λ i j h => by cases h) (λ i j => rfl) (λ i j h => by cases h) .none
 ·have each : ∀ i, i < len -> ∃ e : Tp ks, zq7 Q ks e /\ ∀ j (h' : j < (Go.Proofs.YthdgnfcbehcplaaGreatDoor.enc ks e).length), ∃ c, ZX w b (off + i * ks.length + j) = some c /\ c.oneCell' = true /\ Rd (ZX w) Jy jS c (Go.Proofs.YthdgnfcbehcplaaGreatDoor.enc ks e)[j] := λ i hil => by
   obtain ⟨vs, h1, h2⟩ := hi i hil
   obtain ⟨e, e1, e2, e3, e4⟩ := zq2 hk h2
   refine ⟨e, e1, λ j h' => ?_⟩
   have hj : j < vs.length := by omega
   refine ⟨vs[j], ?_, (e4 j hj h').2, (e4 j hj h').1⟩
   have := h1 j vs[j] (List.getElem?_eq_getElem hj)
   rw [hkl]
   exact this
  obtain ⟨L, hL, hLp⟩ := zgQ len each
  have hel : ∀ e : Tp ks, (Go.Proofs.YthdgnfcbehcplaaGreatDoor.enc ks e).length = ks.length := λ e => by
   have : ∀ (ks : List Ck) (e : Tp ks), (Go.Proofs.YthdgnfcbehcplaaGreatDoor.enc ks e).length = ks.length := λ ks => by
    induction ks with
    | nil => intro e; rfl
    | cons k ks ih => intro e; simp [Go.Proofs.YthdgnfcbehcplaaGreatDoor.enc, ih]
   exact this ks e
  have cl : ∀ i j, i < len -> j < ks.length -> ∃ c, ZX w b (off + i * ks.length + j) = some c /\ c.oneCell' = true /\ ∀ (h : i < L.length) (h' : j < (Go.Proofs.YthdgnfcbehcplaaGreatDoor.enc ks L[i]).length), Rd (ZX w) Jy jS c (Go.Proofs.YthdgnfcbehcplaaGreatDoor.enc ks L[i])[j] := λ i j hi hj => by
   obtain ⟨c, c1, c2, c3⟩ := (hLp i (by omega)).2 j (by rw [hel]; exact hj)
   exact ⟨c, c1, c2, λ _ _ => c3⟩
  refine ⟨L, by omega, λ e he => ?_, rfl, λ ρ σ => ?_⟩
  ·obtain ⟨i, hi', rfl⟩ := List.getElem_of_mem he
   exact (hLp i hi').1
  ·refine .list (λ i j => if i < len /\ j < ks.length then (ZX w b (off + i * ks.length + j)).getD (.bool true) else .bool true) (by simp [hL]) hlc (λ i h => by simp [hel]) (λ i j hi' hj => ?_) (λ i j => ?_) (λ i j h1 h2 => ?_) .none
   ·have hil : i < len := by simpa [hL] using hi'
    obtain ⟨c, c1, -⟩ := cl i j hil hj
    rw [if_pos ⟨hil, hj⟩, c1]; rfl
   ·by_cases hc : i < len /\ j < ks.length
    ·rw [if_pos hc]
     obtain ⟨c, c1, c2, -⟩ := cl i j hc.1 hc.2
     rw [c1]; exact c2
    ·rw [if_neg hc]; rfl
   ·have hil : i < len := by simpa [hL] using h1
    have hjl : j < ks.length := by simpa [hel] using h2
    obtain ⟨c, c1, -, c3⟩ := cl i j hil hjl
    rw [if_pos ⟨hil, hjl⟩, c1]
    have := c3 (by omega) (by rw [hel]; exact hjl)
    simpa using this
theorem zmx {M : Mem} {Q : (k : Ck) -> CkT k -> Prop} {k : IntKind} (hQ : ∀ n, Q (.int k) n) : ∀ v, Jc en P w base (λ _ => true) held (.int k) v -> ∃ a : CkT (.int k), Q (.int k) a /\ Rd M Jy jS v (zfj (.int k) a) /\ v.oneCell' = true := λ v h => by
 obtain ⟨n, rfl, -⟩ := h
 exact ⟨n, hQ n, .v, rfl⟩
theorem znf {M : Mem} {Q : (k : Ck) -> CkT k -> Prop} (hQ : ∀ s : ByteArray, s.size <= 9223372036854775807 -> Q .str s) : ∀ v, Jc en P w base (λ _ => true) held .str v -> ∃ a : CkT .str, Q .str a /\ Rd M Jy jS v (zfj .str a) /\ v.oneCell' = true := λ v h => by
 obtain ⟨n, rfl, hn⟩ := h
 exact ⟨n, hQ n (by unfold maxLen at hn; omega), .v, rfl⟩
end
end
section
open Go.ChangeShapes Go.WideShapes Go.ChangeAt Go.RowKit Go.Deep
def Qv : (k : Ck) -> CkT k -> Prop
 | .str, s => s.size <= 9223372036854775807
 | .sl _, xs => ∃ P : List RT1, xs = P.map zj
 | _, _ => True
def Qe : (k : Ck) -> CkT k -> Prop
 | .sl _, xs => ∃ x : List RT7, xs = x.map zp /\ x.length <= 9223372036854775807 /\ ∀ v ∈ x, zq7 Qv RK7 v
 | _, _ => True
section
variable {H : Type} {enc : TypeId × Value -> H} {w : World}
theorem ztN : Lk (ZX w) (Jc enc Tryz.prog w 0 (λ _ => true) true) Qv RK1 [.str, .str, .str, .str, .int .i64, .int .i64, .int .i64, .int .i64, .int .i64] := by
 have hi := zmx (en := enc) (P := Tryz.prog) (w := w) (base := 0) (held := true) (M := ZX w) (Q := Qv) (k := .i64) λ _ => trivial
 have hs := znf (en := enc) (P := Tryz.prog) (w := w) (base := 0) (held := true) (M := ZX w) (Q := Qv) λ _ h => h
 repeat (first | exact .nil | refine .cons hi ?_ | refine .cons hs ?_)
theorem zik (v : Value) (h : Jc enc Tryz.prog w 0 (λ _ => true) true (.sl 29) v) : ∃ a : CkT (.sl 9), Qv (.sl 9) a /\ Rd (ZX w) Jy jS v (zfj (.sl 9) a) /\ v.oneCell' = true := by
 obtain ⟨n, y, hy⟩ := h
 obtain ⟨L, -, -, h3, h4⟩ := zgP (n := 8) ztN (by decide) Tryz.underlying29 (by kernel_rfl) (by kernel_rfl) hy
 exact ⟨L.map zj, ⟨L, rfl⟩, h4 _ _, h3⟩
def verL : List Leaf := [.int .i64, .int .i64, .str, .int .i64, .str, .str, .str, .str, .int .i64, .int .i64, .int .i64, .int .i64, .int .i64, .sl 29, .int .i64, .int .i64, .int .i64, .int .i64, .int .i64, .int .i64, .int .i64, .int .i64, .int .i64, .int .i64, .int .i64, .int .i64, .int .i64, .int .i64, .int .i64]
set_option maxRecDepth 100000 in
theorem zyv : Lk (ZX w) (Jc enc Tryz.prog w 0 (λ _ => true) true) Qv RK7 verL := by
 have hi := zmx (en := enc) (P := Tryz.prog) (w := w) (base := 0) (held := true) (M := ZX w) (Q := Qv) (k := .i64) λ _ => trivial
 have hs := znf (en := enc) (P := Tryz.prog) (w := w) (base := 0) (held := true) (M := ZX w) (Q := Qv) λ _ h => h
 exact .cons hi (.cons hi (.cons hs (.cons hi (.cons hs (.cons hs (.cons hs (.cons hs (.cons hi (.cons hi (.cons hi (.cons hi (.cons hi (.cons zik (.cons hi (.cons hi (.cons hi (.cons hi (.cons hi (.cons hi (.cons hi (.cons hi (.cons hi (.cons hi (.cons hi (.cons hi (.cons hi (.cons hi (.cons hi .nil))))))))))))))))))))))))))))
theorem zue (v : Value) (h : Jc enc Tryz.prog w 0 (λ _ => true) true (.sl 69) v) : ∃ a : CkT (.sl 29), Qe (.sl 29) a /\ Rd (ZX w) Jy jS v (zfj (.sl 29) a) /\ v.oneCell' = true := by
 obtain ⟨n, y, hy⟩ := h
 obtain ⟨L, h1, h2, h3, h4⟩ := zgP (n := 8) zyv (by decide) Tryz.underlying69 (by kernel_rfl) (by kernel_rfl) hy
 exact ⟨L.map zp, ⟨L, rfl, h1, h2⟩, h4 _ _, h3⟩
def zuA (W : World) (v : Value) : Prop := ∃ C : List (List RT7), Sz C /\ (∀ x ∈ C, ∀ v ∈ x, Raw (evV v) /\ (byV v).size <= 9223372036854775807) /\ ∀ ρ σ, Rd (ZX W) ρ σ v (.agg [.list 1 (zh C) none])
theorem zBn {v : RT7} (h : zq7 Qv RK7 v) : Raw (evV v) /\ (byV v).size <= 9223372036854775807 :=
 ⟨h.2.2.2.2.2.2.2.2.2.2.2.2.2.1, h.2.2.1⟩
set_option maxRecDepth 100000 in
theorem zxn {b0 : Nat} {v : Value} {d : DataW H} {p : List MemPlace} (hv : Value.okWide Tryz.prog w .any b0 24 v) (h : DataW.Trod enc Tryz.prog w 0 (λ _ => true) true 24 v d p) :
  ∃ cs : Array Value, v = .agg cs /\ zuA w (.agg cs) := by
 obtain ⟨cs, rfl, h0⟩ := zqE (n := 8) (ls := [.sl 22]) Tryz.underlying24 (by kernel_rfl) hv h
 obtain ⟨v0, s0, rfl, k0, h1⟩ := AllOk.cons h0
 obtain rfl := AllOk.nil h1
 obtain ⟨n, y, hy⟩ := k0
 obtain ⟨L, q1, q2, q3, q4⟩ := zgP (n := 8) (ks := RK6) (Q := Qe) (.cons zue .nil) (by decide) Tryz.underlying22 (by kernel_rfl) (by kernel_rfl) hy
 obtain ⟨C, hC, hCp⟩ := zgQ (p := λ i (x : List RT7) => ∀ h : i < L.length, (L[i]).1 = x.map zp /\ x.length <= 9223372036854775807 /\ ∀ v ∈ x, zq7 Qv RK7 v) L.length λ i hi => by
  obtain ⟨x, x1, x2, x3⟩ := (q2 _ (List.getElem_mem hi)).1
  exact ⟨x, λ _ => ⟨x1, x2, x3⟩⟩
 have hrow : L.map (Go.Proofs.YthdgnfcbehcplaaGreatDoor.enc RK6) = zh C := by
  refine List.ext_getElem (by simp [zh, hC]) λ i h1 h2 => ?_
  have hi : i < L.length := by simpa using h1
  have := (hCp i (by omega) hi).1
  simp only [List.getElem_map, zh]
  show [AV.list 29 (L[i]).1 none] = _
  rw [this]; rfl
 refine ⟨_, rfl, C, ⟨by omega, λ x hx => ?_⟩, λ x hx v hv => ?_, λ ρ σ => ?_⟩
 ·obtain ⟨i, hi, rfl⟩ := List.getElem_of_mem hx
  exact (hCp i hi (by omega)).2.1
 ·obtain ⟨i, hi, rfl⟩ := List.getElem_of_mem hx
  exact zBn ((hCp i hi (by omega)).2.2 v hv)
 ·refine .agg rfl (λ i h => ?_) λ i h h' => ?_
  ·obtain rfl : i = 0 := by have : i < 1 := h; omega
   exact q3
  ·obtain rfl : i = 0 := by have : i < 1 := h; omega
   have := q4 ρ σ
   rw [hrow] at this
   exact this
def zBq (W : World) (v : Value) : Prop := ∃ e : RT0, Raw e /\ ∀ ρ σ, Rd (ZX W) ρ σ v (.agg (zu e))
set_option maxRecDepth 100000 in
theorem zoB {b0 : Nat} {v : Value} {d : DataW H} {p : List MemPlace} (hv : Value.okWide Tryz.prog w .any b0 41 v) (h : DataW.Trod enc Tryz.prog w 0 (λ _ => true) true 41 v d p) :
  ∃ cs : Array Value, v = .agg cs /\ zBq w (.agg cs) := by
 obtain ⟨cs, rfl, h0⟩ := zqE (n := 8) (ls := [.str, .str, .str, .str, .int .i64, .int .i64, .int .i64, .int .i64, .int .i64, .sl 29, .int .i64, .int .i64, .int .i64, .int .i64, .int .i64, .int .i64, .int .i64, .int .i64, .int .i64, .int .i64, .int .i64, .int .i64, .int .i64, .int .i64, .int .i64]) Tryz.underlying41 (by kernel_rfl) hv h
 have hi := zmx (en := enc) (P := Tryz.prog) (w := w) (base := 0) (held := true) (M := ZX w) (Q := Qv) (k := .i64) λ _ => trivial
 have hs := znf (en := enc) (P := Tryz.prog) (w := w) (base := 0) (held := true) (M := ZX w) (Q := Qv) λ _ h => h
 obtain ⟨e, e1, e2, e3, e4⟩ := zq2 (ks := RK0) (by repeat (first | exact .nil | refine .cons hi ?_ | refine .cons hs ?_ | refine .cons zik ?_)) h0
 refine ⟨_, rfl, e, e1.2.2.2.2.2.2.2.2.2.1, λ ρ σ => .agg ?_ (λ i h => ?_) λ i h h' => ?_⟩
 ·show cs.length = _
  exact e2.trans e3.symm
 ·have hi : i < cs.length := h
  exact (e4 i hi (by rw [e3, <- e2]; exact hi)).2
 ·exact (e4 i h h').1.of0
end
theorem JS (a0 : Array Value) (a1 a2 : Int) (a3 : ByteArray) (a4 : Array Value) (a5 : Int) (a6 : Option Addr) (len6 cap6 : Nat) (W : World) (c0 : zuA W (.agg a0)) (z1 : -9223372036854775808 <= a1 /\ a1 <= 9223372036854775807) (z2 : -9223372036854775808 <= a2 /\ a2 <= 9223372036854775807) (z3 : a3.size <= 140737488351232) (c4 : zBq W (.agg a4)) (z5 : -9223372036854775808 <= a5 /\ a5 <= 9223372036854775807) (w6 : zhC W (.slice a6 len6 cap6)) (hgl : zn3 (ZX W) W [] (InT jS [])) :
  Calls Tryz.prog 3 #[.agg a0, .int .i64 a1, .int .i64 a2, .string a3, .agg a4, .int .i64 a5, .slice a6 len6 cap6] W λ e w' => e = .returned (.bool true) /\ Below W.heap.size W w' := by
 obtain ⟨C, hS, hC, hr0⟩ := c0
 obtain ⟨x, hx, hr4⟩ := c4
 obtain ⟨xs, hb, hl, hr⟩ := w6
 refine CallOk.calls ((F3_e 600).ok (zh C, a1, a2, a3, x, a5, zk xs) true (zsN hS hC a1 a2 a3 hx a5 xs)) W _ rfl (λ i h h' => ?_) hgl
 have hi : i = 0 \/ i = 1 \/ i = 2 \/ i = 3 \/ i = 4 \/ i = 5 \/ i = 6 := by have : i < 7 := h; omega
 rcases hi with rfl | rfl | rfl | rfl | rfl | rfl | rfl
 ·exact hr0 _ _
 ·exact .v
 ·exact .v
 ·exact .v
 ·exact hr4 _ _
 ·exact .v
 ·exact hr _ _
end
section
open Go.RowKit
def bD (bs : List Bool) : DataW Unit := .agg (bs.map λ b => .lit (.bool b))
theorem ZN {enc : TypeId × Value -> Unit} {P : Program} {w : World} {base : Nat} {sp : Nat -> Bool} {held : Bool} {fuel : Nat} {t e : TypeId} {n : Nat} {cs : List Value} {bs : List Bool} {p : List MemPlace}
  (ht : P.underlying t = some (.array n e)) (he : P.underlying e = some .bool) (hce : P.cellsOf e = 1) (hct : P.cellsOf t = n)
  (h : DataW.trod enc P w base sp held fuel t cs = some (bD bs, p)) : cs = bs.map Value.bool := by
 obtain ⟨xs, m, _, hx, hl, hn, hf⟩ := DataW.trod_array ht h
 have hxs : xs.map (·.1) = bs.map λ b => (DataW.lit (.bool b) : DataW Unit) := by
  have := congrArg Prod.fst hx
  unfold bD at this
  exact (DataW.agg.inj this).symm
 have hbl : bs.length = n := by
  have := congrArg List.length hxs
  simp at this
  omega
 rw [hce] at hf
 apply List.ext_getElem?
 intro i
 by_cases hi : i < n
 ·have hxi : xs[i]? = some xs[i] := List.getElem?_eq_getElem (by omega)
  have hfi := hf i hi
  rw [hxi] at hfi
  obtain ⟨b, hc, hb⟩ := DataW.trod_bool he hfi
  have h1 : cs[i]? = some (.bool b) := by
   have := congrArg (·[0]?) hc
   simpa [List.getElem?_take, List.getElem?_drop] using this
  have h2 : (xs.map (·.1))[i]? = some (DataW.lit (.bool b) : DataW Unit) := by simp [hxi, hb]
  rw [hxs] at h2
  simp only [List.getElem?_map, Option.map_eq_some_iff, DataW.lit.injEq, Lit.bool.injEq] at h2
  obtain ⟨z', hz', rfl⟩ := h2
  simp [h1, hz']
 ·rw [List.getElem?_eq_none (by omega), List.getElem?_eq_none (by simp; omega)]
theorem zco {enc : TypeId × Value -> Unit} {P : Program} {w : World} {base : Nat} {sp : Nat -> Bool} {held : Bool} {fuel : Nat} {t r e : TypeId} {cs : List Value} {a0 a1 a2 a3 a4 a5 a6 : List Bool} {p : List MemPlace}
  (ht : P.underlying t = some (.array 7 r)) (hr : P.underlying r = some (.array 7 e)) (he : P.underlying e = some .bool) (hce : P.cellsOf e = 1) (hcr : P.cellsOf r = 7) (hct : P.cellsOf t = 49)
  (h : DataW.trod enc P w base sp held fuel t cs = some (.agg [bD a0, bD a1, bD a2, bD a3, bD a4, bD a5, bD a6], p)) : cs = (a0 ++ a1 ++ a2 ++ a3 ++ a4 ++ a5 ++ a6).map Value.bool := by
 obtain ⟨xs, m, _, hx, hl, hn, hf⟩ := DataW.trod_array ht h
 have hxs : [bD a0, bD a1, bD a2, bD a3, bD a4, bD a5, bD a6] = xs.map (·.1) := by
  have := congrArg Prod.fst hx
  exact DataW.agg.inj this
 rw [hcr] at hf
 rw [hct] at hl
 match xs, hn, hxs, hf with
 | [x0, x1, x2, x3, x4, x5, x6], _, hxs, hf =>
  simp only [List.map_cons, List.map_nil, List.cons.injEq, and_true] at hxs
  obtain ⟨e0, e1, e2, e3, e4, e5, e6⟩ := hxs
  have g : ∀ (i : Nat) (x : DataW Unit × List MemPlace) (b : List Bool), i < 7 -> [x0, x1, x2, x3, x4, x5, x6][i]? = some x -> bD b = x.1 -> (cs.drop (i * 7)).take 7 = b.map Value.bool := λ i x b hi hx hb => by
   have h2 := hf i hi
   rw [hx] at h2
   obtain ⟨x1, x2⟩ := x
   dsimp only at hb
   subst hb
   exact ZN hr he hce hcr h2
  have k0 := g 0 x0 a0 (by omega) rfl e0
  have k1 := g 1 x1 a1 (by omega) rfl e1
  have k2 := g 2 x2 a2 (by omega) rfl e2
  have k3 := g 3 x3 a3 (by omega) rfl e3
  have k4 := g 4 x4 a4 (by omega) rfl e4
  have k5 := g 5 x5 a5 (by omega) rfl e5
  have k6 := g 6 x6 a6 (by omega) rfl e6
  have s : ∀ j, cs.drop (j * 7) = (cs.drop (j * 7)).take 7 ++ cs.drop ((j + 1) * 7) := λ j => by
   rw [Nat.add_mul, Nat.one_mul, <- List.drop_drop, List.take_append_drop]
  have z : cs.drop (7 * 7) = [] := List.drop_eq_nil_of_le (by omega)
  have : cs = cs.drop (0 * 7) := rfl
  rw [this, s 0, s 1, s 2, s 3, s 4, s 5, s 6, z, k0, k1, k2, k3, k4, k5, k6]
  simp only [List.map_append, List.append_nil, List.append_assoc]
theorem zaB {W : World} {n : String} {g : Nat} (P : Program) (hn : P.globalNamed n = some g) {cs : Array Value} (h : W.var? P n = some cs) : ∃ t z, W.heap[g]? = some (.cells cs t z) := by
 unfold World.var? at h
 rw [hn] at h
 have h' : (match W.heap[g]? with | some (Obj.cells cs _ _) => some cs | _ => none) = some cs := h
 split at h'
 ·rename_i c t z hc
  cases h'
  exact ⟨t, z, hc⟩
 ·cases h'
def zxJ : List (String × DataW Unit) := Rows.catalogueKeptRow.laid
theorem zud {W : World} (h : laidMetH Tryz.prog zxJ W) : (∃ t z, W.heap[0]? = some (.cells gtab0.toArray t z)) /\ (∃ t z, W.heap[1]? = some (.cells gtab1.toArray t z)) /\ (∃ t z, W.heap[2]? = some (.cells gtab2.toArray t z)) /\ (∃ t z, W.heap[3]? = some (.cells gtab3.toArray t z)) := by
 rw [MakeChecks.laidMetH_plain _ _ _ (by kernel_rfl)] at h
 obtain ⟨ps, ⟨g1, t1, c1, f1, p1, q1, n1, y1, v1, d1, ⟨g3, t3, c3, f3, p3, q3, n3, y3, v3, d3, ⟨g0, t0, c0, f0, p0, q0, n0, y0, v0, d0, ⟨g2, t2, c2, f2, p2, q2, n2, y2, v2, d2, _, _⟩, _⟩, _⟩, _⟩, _⟩ := h
 have m1 : Tryz.prog.globalNamed "seismonet/catalogue.follows" = some 1 := by kernel_rfl
 have m3 : Tryz.prog.globalNamed "seismonet/catalogue.computed" = some 3 := by kernel_rfl
 have m0 : Tryz.prog.globalNamed "seismonet/catalogue.shown" = some 0 := by kernel_rfl
 have m2 : Tryz.prog.globalNamed "seismonet/catalogue.kept" = some 2 := by kernel_rfl
 obtain rfl := Option.some.inj (m1.symm.trans n1)
 obtain rfl := Option.some.inj (m3.symm.trans n3)
 obtain rfl := Option.some.inj (m0.symm.trans n0)
 obtain rfl := Option.some.inj (m2.symm.trans n2)
 have u1 : (Tryz.prog.globals[1]?).map (·.type) = some 102 := by kernel_rfl
 have u3 : (Tryz.prog.globals[3]?).map (·.type) = some 98 := by kernel_rfl
 have u0 : (Tryz.prog.globals[0]?).map (·.type) = some 98 := by kernel_rfl
 have u2 : (Tryz.prog.globals[2]?).map (·.type) = some 98 := by kernel_rfl
 obtain rfl := Option.some.inj (u1.symm.trans y1)
 obtain rfl := Option.some.inj (u3.symm.trans y3)
 obtain rfl := Option.some.inj (u0.symm.trans y0)
 obtain rfl := Option.some.inj (u2.symm.trans y2)
 have e4 : Tryz.prog.cellsOf 4 = 1 := by kernel_rfl
 have e86 : Tryz.prog.cellsOf 98 = 7 := by kernel_rfl
 have e94 : Tryz.prog.cellsOf 102 = 49 := by kernel_rfl
 have z0 : c0.toList = gtab0 := ZN (bs := [false, true, false, true, false, false, true]) Tryz.underlying98 Tryz.underlying4 e4 e86 d0
 have z2 : c2.toList = gtab2 := ZN (bs := [false, false, true, false, true, true, true]) Tryz.underlying98 Tryz.underlying4 e4 e86 d2
 have z3 : c3.toList = gtab3 := ZN (bs := [false, true, true, false, false, false, false]) Tryz.underlying98 Tryz.underlying4 e4 e86 d3
 have z1 : c1.toList = gtab1 := zco (a0 := [false, false, false, false, false, false, false]) (a1 := [false, true, true, false, false, false, true]) (a2 := [false, true, false, false, false, false, true]) (a3 := [false, true, true, true, true, true, true]) (a4 := [false, true, true, true, true, true, true]) (a5 := [false, true, true, true, true, true, true]) (a6 := [false, false, false, true, true, true, false]) Tryz.underlying102 Tryz.underlying98 Tryz.underlying4 e4 e86 e94 d1
 have w0 := zaB _ m0 v0
 have w1 := zaB _ m1 v1
 have w2 := zaB _ m2 v2
 have w3 := zaB _ m3 v3
 rw [<- z0, <- z1, <- z2, <- z3]
 exact ⟨w0, w1, w2, w3⟩
theorem zh4 {W : World} {g : Nat} {cs : List Value} (h1 : ∀ x ∈ cs, ∃ b, x = Value.bool b) (hw : ∃ t z, W.heap[g]? = some (.cells cs.toArray t z)) : (∀ j, (cs.getD j (.bool true)).oneCell' = true /\ (j < cs.length -> ZX W g j = some (cs.getD j (.bool true)))) /\ (∃ (t : TypeId) (z : Nat × Nat), W.heap[g]? = some (.cells cs.toArray t z)) /\ some g ∉ ([] : List (Option Nat)) /\ ¬ InT jS [] g := by
 refine ⟨λ j => ⟨?_, λ hj => ?_⟩, hw, λ h => (by cases h), λ ⟨t, h, _⟩ => (by cases h)⟩
 ·by_cases hj : j < cs.length
  ·rw [List.getD_eq_getElem?_getD, List.getElem?_eq_getElem hj]
   obtain ⟨b, hb⟩ := h1 _ (List.getElem_mem hj)
   rw [Option.getD_some, hb]; rfl
  ·rw [List.getD_eq_getElem?_getD, List.getElem?_eq_none (by simpa using hj)]
   rfl
 ·obtain ⟨t, z, hw⟩ := hw
  show W.cell? ⟨g, j, none⟩ = _
  rw [List.getD_eq_getElem?_getD, List.getElem?_eq_getElem hj, Option.getD_some]
  simp [World.cell?, hw, hj]
theorem zA6 {W : World} (h : laidMetH Tryz.prog zxJ W) : zn3 (ZX W) W [] (InT jS []) := by
 obtain ⟨w0, w1, w2, w3⟩ := zud h
 have hb : ∀ (l : List Bool), ∀ x ∈ l.map Value.bool, ∃ b, x = Value.bool b := λ l x hx => by
  obtain ⟨b, _, e⟩ := List.mem_map.1 hx
  exact ⟨b, e.symm⟩
 intro g cs hg
 unfold glb at hg
 split at hg
 ·cases hg; exact zh4 (hb _) w0
 ·cases hg; exact zh4 (hb _) w1
 ·cases hg; exact zh4 (hb _) w2
 ·cases hg; exact zh4 (hb _) w3
 ·cases hg
end
end Go.Proofs.YthdgnfcbehcplaaGreatDoor
