/- Several texts as one (written by pack.py). -/
import Derived.Test.YthdgnfcbehcplaaDoorCnE
import Derived.Test.YthdgnfcbehcplaaDoorRows
import Derived.LaidMore
import Derived.Lay
import Derived.LaidLaws
import Derived.MakeChecks
import Derived.Stop.LaidErr
import Derived.Lib.LaidTab
import Derived.OpenShut
set_option linter.unusedVariables false
set_option linter.unusedSimpArgs false
set_option linter.unnecessarySimpa false
section
namespace Go.Proofs.YthdgnfcbehcplaaDoor
theorem zz9 : ∀ n : Nat, n < 64 -> zwm 600 ([[AV.v (.int .i64 (-1))]], (n : Int)) = some (n, ic (List.replicate n (-1)))
 | 0, _ => by kernel_rfl
 | 1, _ => by kernel_rfl
 | 2, _ => by kernel_rfl
 | 3, _ => by kernel_rfl
 | 4, _ => by kernel_rfl
 | 5, _ => by kernel_rfl
 | 6, _ => by kernel_rfl
 | 7, _ => by kernel_rfl
 | 8, _ => by kernel_rfl
 | 9, _ => by kernel_rfl
 | 10, _ => by kernel_rfl
 | 11, _ => by kernel_rfl
 | 12, _ => by kernel_rfl
 | 13, _ => by kernel_rfl
 | 14, _ => by kernel_rfl
 | 15, _ => by kernel_rfl
 | 16, _ => by kernel_rfl
 | 17, _ => by kernel_rfl
 | 18, _ => by kernel_rfl
 | 19, _ => by kernel_rfl
 | 20, _ => by kernel_rfl
 | 21, _ => by kernel_rfl
 | 22, _ => by kernel_rfl
 | 23, _ => by kernel_rfl
 | 24, _ => by kernel_rfl
 | 25, _ => by kernel_rfl
 | 26, _ => by kernel_rfl
 | 27, _ => by kernel_rfl
 | 28, _ => by kernel_rfl
 | 29, _ => by kernel_rfl
 | 30, _ => by kernel_rfl
 | 31, _ => by kernel_rfl
 | 32, _ => by kernel_rfl
 | 33, _ => by kernel_rfl
 | 34, _ => by kernel_rfl
 | 35, _ => by kernel_rfl
 | 36, _ => by kernel_rfl
 | 37, _ => by kernel_rfl
 | 38, _ => by kernel_rfl
 | 39, _ => by kernel_rfl
 | 40, _ => by kernel_rfl
 | 41, _ => by kernel_rfl
 | 42, _ => by kernel_rfl
 | 43, _ => by kernel_rfl
 | 44, _ => by kernel_rfl
 | 45, _ => by kernel_rfl
 | 46, _ => by kernel_rfl
 | 47, _ => by kernel_rfl
 | 48, _ => by kernel_rfl
 | 49, _ => by kernel_rfl
 | 50, _ => by kernel_rfl
 | 51, _ => by kernel_rfl
 | 52, _ => by kernel_rfl
 | 53, _ => by kernel_rfl
 | 54, _ => by kernel_rfl
 | 55, _ => by kernel_rfl
 | 56, _ => by kernel_rfl
 | 57, _ => by kernel_rfl
 | 58, _ => by kernel_rfl
 | 59, _ => by kernel_rfl
 | 60, _ => by kernel_rfl
 | 61, _ => by kernel_rfl
 | 62, _ => by kernel_rfl
 | 63, _ => by kernel_rfl
 | n + 64, h => absurd h (by omega)
def bc (L : List Bool) : List AV := L.map fun x => AV.v (.bool x)
theorem zpe (L : List Bool) : (bc L).length = L.length := by simp [bc]
theorem zbW (L : List Bool) (k : Nat) (h : k < L.length) : (bc L)[k]? = some (AV.v (.bool L[k])) := by simp [bc, h]
theorem zV (L : List Bool) : (bc L).map dat0 = bc L := by simp only [bc, List.map_map]; rfl
theorem znC (L : List Bool) (k : Nat) (y : Bool) : splice (bc L) k [AV.v (.bool y)] = bc (L.set k y) := by
 show (bc L).set k _ = _
 simp [bc, List.map_set]
theorem zv1 (n : Nat) : List.replicate n (AV.v (.bool false)) = bc (List.replicate n false) := by simp [bc]
theorem zxB (L : List Int) : zJ ((ic L).take (L.length * 1)) 1 L.length = zA L := by
 rw [Nat.mul_one, List.take_of_length_le (by rw [zeK]; exact Nat.le_refl _)]
 induction L with
 | nil => rfl
 | cons x L ih =>
  show _ :: _ = _ :: _
  congr 1
def Hit (M : RT0 -> RT0 -> Prop) (A : List RT0) (tk : List Bool) (a : RT0) (k j : Nat) : Prop := ∃ (h : j < A.length) (h' : j < tk.length), k <= j /\ tk[j] = false /\ M a A[j] /\ ∀ i (hi : i < A.length) (hi' : i < tk.length), k <= i -> i < j -> tk[i] = false -> ¬ M a A[i]
def zzk (M : RT0 -> RT0 -> Prop) (A : List RT0) (tk : List Bool) (a : RT0) (k : Nat) : Prop := ∀ i (hi : i < A.length) (hi' : i < tk.length), k <= i -> tk[i] = false -> ¬ M a A[i]
def laE (x : List RT7) : Option RT0 := x.getLast?.map evV
inductive Pass (M : RT0 -> RT0 -> Prop) (C : List (List RT7)) (A : List RT0) : Nat -> List Int -> List Bool -> List Int -> List Bool -> Prop
 | done {k : Nat} {o : List Int} {t : List Bool} : C.length <= k -> Pass M C A k o t o t
 | skip {k : Nat} {o o' : List Int} {t t' : List Bool} : k < C.length -> (∀ h : k < o.length, 0 <= o[k]) -> Pass M C A (k + 1) o t o' t' -> Pass M C A k o t o' t'
 | hit {k j : Nat} {o o' : List Int} {t t' : List Bool} {a : RT0} (h : k < C.length) : (∀ h : k < o.length, o[k] < 0) -> laE C[k] = some a -> Hit M A t a 0 j -> Pass M C A (k + 1) (o.set k (j : Int)) (t.set j true) o' t' -> Pass M C A k o t o' t'
 | miss {k : Nat} {o o' : List Int} {t t' : List Bool} {a : RT0} (h : k < C.length) : (∀ h : k < o.length, o[k] < 0) -> laE C[k] = some a -> zzk M A t a 0 -> Pass M C A (k + 1) o t o' t' -> Pass M C A k o t o' t'
theorem zjx {x : List RT7} (h : x ≠ []) : laE x = some (evV (x.getLast h)) := by
 simp [laE, List.getLast?_eq_some_getLast h]
def SameN (a e : RT0) : Prop := nmE a = nmE e
def zfN (a e : RT0) : Prop := ∃ P Q : List RT1, pkE a = P.map zw /\ pkE e = Q.map zw /\ Com P Q
theorem zCY {a e : RT0} (ha : za7 a) (he : za7 e) : ∃ b, zyv 600 (a, e) = some b /\ (b = true ↔ SameN a e) := by
 refine ⟨eqP (nmE a) (nmE e), rfl, fun h => zwL h, fun h => ?_⟩
 unfold SameN at h
 rw [h]; exact JW _
theorem zDF {a e : RT0} (ha : za7 a) (he : za7 e) : ∃ b, zmk 600 (a, e) = some b /\ (b = true ↔ zfN a e) := by
 obtain ⟨P, hP1, hP⟩ := ha
 obtain ⟨Q, hQ1, hQ⟩ := he
 obtain ⟨b, h1, h2⟩ := zm3 P Q a e hP hQ (by omega) (by omega)
 refine ⟨b, h1, h2.trans ⟨fun h => ⟨P, Q, hP, hQ, h⟩, fun ⟨P', Q', h3, h4, h5⟩ => ?_⟩⟩
 rw [hP] at h3
 rw [hQ] at h4
 rw [zcn h3, zcn h4]; exact h5
theorem zzU {T : Int} {m e : Nat} {C : List (List RT7)} (he : e <= 500) (hm : m <= 100) (hC : CG T m e C) (A : List RT0) (hA : A.length <= 100) (hpk : ∀ a ∈ A, za7 a) (i : Nat) (hi : i < C.length) (L : List Int) (hL : L.length = C.length) (t : List Bool) (ht : t.length = A.length) : ∀ (d k f : Nat), k + d = A.length -> d < f ->
  ∃ L' t', (zZ 600).L f (zP C, A.map zB, (i : Int), (C.length : Int), (i : Int), (A.length : Int), (k : Int), zP C, C.length, A.map zB, A.length, ic L, bc t, C[i].map zM) = some (zP C, (C.length : Int), (i : Int), zP C, C.length, A.map zB, A.length, ic L', bc t') /\ ((∃ j, Hit SameN A t (evV (C[i].getLast (hC.xs i hi).ne)) k j /\ L' = L.set i (j : Int) /\ t' = t.set j true) \/ (zzk SameN A t (evV (C[i].getLast (hC.xs i hi).ne)) k /\ L' = L /\ t' = t)) := by
 have hle := hC.le
 have hx := hC.xs i hi
 have hxl := hx.le
 have hla := znf C[i] hx.ne (by omega)
 intro d
 induction d with
 | zero =>
  intro k f hk hf
  obtain ⟨f, rfl⟩ := pS hf
  refine ⟨L, t, ?_, .inr ⟨fun j h h' hk' => by omega, rfl, rfl⟩⟩
  show (zZ 600).b _ _ ((zZ 600).L f) some = _
  have e2 : decide ((k : Int) < (A.length : Int)) = false := dF (by omega)
  simp only [zZ]
  simp only [e2, zC, zV]
 | succ d ih =>
  intro k f hk hf
  obtain ⟨f, rfl⟩ := pS hf
  have hkl : k < A.length := by omega
  have hkt : k < t.length := by omega
  have e2 : decide ((k : Int) < (A.length : Int)) = true := dT (by omega)
  have h0 : 0 <= (k : Int) := by omega
  have h1 : (k : Int) < (A.length : Int) := by omega
  have hi0 : 0 <= (i : Int) := by omega
  have hi1 : (i : Int) < (C.length : Int) := by omega
  have n1 := zp (show k < 1000000 by omega)
  obtain ⟨L', t', r1, r2⟩ := ih (k + 1) f (by omega) (by omega)
  have hnext : t[k] = true \/ ¬ SameN (evV (C[i].getLast hx.ne)) A[k] -> ((∃ j, Hit SameN A t (evV (C[i].getLast hx.ne)) k j /\ L' = L.set i (j : Int) /\ t' = t.set j true) \/ (zzk SameN A t (evV (C[i].getLast hx.ne)) k /\ L' = L /\ t' = t)) := fun hc => by
   rcases r2 with ⟨j, ⟨q1, q2, q3, q4, q5, q6⟩, q7⟩ | ⟨q1, q2⟩
   ·refine .inl ⟨j, ⟨q1, q2, by omega, q4, q5, fun z hz hz' h1 h2 h3 => ?_⟩, q7⟩
    by_cases e : k = z
    ·subst e
     rcases hc with hc | hc
     ·rw [h3] at hc; cases hc
     ·exact hc
    ·exact q6 z hz hz' (by omega) h2 h3
   ·refine .inr ⟨fun z hz hz' h1 h3 => ?_, q2⟩
    by_cases e : k = z
    ·subst e
     rcases hc with hc | hc
     ·rw [h3] at hc; cases hc
     ·exact hc
    ·exact q1 z hz hz' (by omega) h3
  have hM : ∃ b, zyv 600 (zy (C[i].getLast hx.ne), A[k]) = some b /\ (b = true ↔ SameN (evV (C[i].getLast hx.ne)) A[k]) := zCY hx.last.ev.pk (hpk _ (List.getElem_mem _))
  obtain ⟨b, m1, m2⟩ := hM
  cases hb : t[k] with
  | true =>
   refine ⟨L', t', ?_, hnext (.inl hb)⟩
   show (zZ 600).b _ _ ((zZ 600).L f) some = _
   generalize (zZ 600).L f = Lf at r1 |-
   simp only [zZ]
   simp only [e2, h0, h1, decide_true, and_self, if_true, Int.toNat_natCast, zcx A k hkl, ZF, Nat.zero_add, Nat.mul_one, zbW t k hkt, hb, Bool.not_true, zC, zV, n1]
   exact r1
  | false =>
   cases b with
   | false =>
    refine ⟨L', t', ?_, hnext (.inr fun h => by have := m2.2 h; cases this)⟩
    show (zZ 600).b _ _ ((zZ 600).L f) some = _
    generalize (zZ 600).L f = Lf at r1 |-
    simp only [zZ]
    simp only [e2, h0, h1, decide_true, and_self, if_true, Int.toNat_natCast, zcx A k hkl, ZF, Nat.zero_add, Nat.mul_one, zbW t k hkt, hb, Bool.not_false, hla, m1, zC, zV, n1]
    exact r1
   | true =>
    refine ⟨L.set i (k : Int), t.set k true, ?_, .inl ⟨k, ⟨hkl, hkt, Nat.le_refl _, hb, m2.1 rfl, fun z _ _ h1 h2 => by omega⟩, rfl, rfl⟩⟩
    show (zZ 600).b _ _ ((zZ 600).L f) some = _
    have b1 : i + 1 <= (ic L).length := by rw [zeK]; omega
    have b2 : k + 1 <= (bc t).length := by rw [zpe]; omega
    simp only [zZ]
    simp only [e2, h0, h1, hi0, hi1, decide_true, and_self, if_true, Int.toNat_natCast, zcx A k hkl, ZF, Nat.zero_add, Nat.mul_one, zbW t k hkt, hb, Bool.not_false, hla, m1, b1, b2, znG, znC, zC, zV]
theorem zyN {T : Int} {m e : Nat} {C : List (List RT7)} (he : e <= 500) (hm : m <= 100) (hC : CG T m e C) (A : List RT0) (hA : A.length <= 100) (hpk : ∀ a ∈ A, za7 a) : ∀ (d k f : Nat) (L : List Int) (t : List Bool), k + d = C.length -> d < f -> L.length = C.length -> t.length = A.length ->
  ∃ L' t', (ZK 600).L f (zP C, (C.length : Int), (k : Int), zP C, C.length, A.map zB, A.length, ic L, bc t) = some (zP C, C.length, A.map zB, A.length, ic L', bc t') /\ L'.length = C.length /\ t'.length = A.length /\ Pass SameN C A k L t L' t' := by
 have hle := hC.le
 intro d
 induction d with
 | zero =>
  intro k f L t hk hf hL ht
  obtain ⟨f, rfl⟩ := pS hf
  refine ⟨L, t, ?_, hL, ht, .done (by omega)⟩
  show (ZK 600).b _ _ ((ZK 600).L f) some = _
  have e2 : decide ((k : Int) < (C.length : Int)) = false := dF (by omega)
  simp only [ZK]
  simp only [e2, zC, zV]
 | succ d ih =>
  intro k f L t hk hf hL ht
  obtain ⟨f, rfl⟩ := pS hf
  have hkl : k < C.length := by omega
  have hkL : k < L.length := by omega
  have hx := hC.xs k hkl
  have e2 : decide ((k : Int) < (C.length : Int)) = true := dT (by omega)
  have h0 : 0 <= (k : Int) := by omega
  have h1 : (k : Int) < (C.length : Int) := by omega
  have n1 := zp (show k < 1000000 by omega)
  by_cases hc : 0 <= L[k]
  ·obtain ⟨L', t', r1, r2, r3, r4⟩ := ih (k + 1) f L t (by omega) (by omega) hL ht
   refine ⟨L', t', ?_, r2, r3, .skip hkl (fun _ => hc) r4⟩
   show (ZK 600).b _ _ ((ZK 600).L f) some = _
   generalize (ZK 600).L f = Lf at r1 |-
   have e3 : decide (L[k] >= 0) = true := dT (by omega)
   simp only [ZK]
   simp only [e2, h0, h1, decide_true, and_self, if_true, Int.toNat_natCast, Zc C k hkl, rd6, Nat.zero_add, Nat.mul_one, JE L k hkL, e3, zC, zV, n1]
   exact r1
  ·have e3 : decide (L[k] >= 0) = false := dF (by omega)
   have hp := hx.pos
   have e4 : ((C[k].length : Int) == 0) = false := by rw [beq_eq_false_iff_ne]; omega
   obtain ⟨L1, t1, a1, a2⟩ := zzU he hm hC A hA hpk k hkl L hL t ht A.length 0 600 (by omega) (by omega)
   replace a1 : (zZ 600).L 600 (zP C, A.map zB, (k : Int), (C.length : Int), (k : Int), (A.length : Int), 0, zP C, C.length, A.map zB, A.length, ic L, bc t, C[k].map zM) = _ := a1
   have hlt : L1.length = C.length /\ t1.length = A.length := by
    rcases a2 with ⟨j, _, rfl, rfl⟩ | ⟨_, rfl, rfl⟩
    ·simp [hL, ht]
    ·exact ⟨hL, ht⟩
   obtain ⟨L', t', r1, r2, r3, r4⟩ := ih (k + 1) f L1 t1 (by omega) (by omega) hlt.1 hlt.2
   refine ⟨L', t', ?_, r2, r3, ?_⟩
   ·show (ZK 600).b _ _ ((ZK 600).L f) some = _
    generalize (ZK 600).L f = Lf at r1 |-
    simp only [ZK]
    simp only [e2, h0, h1, decide_true, and_self, if_true, Int.toNat_natCast, Zc C k hkl, rd6, Nat.zero_add, Nat.mul_one, JE L k hkL, e3, zC, zV, n1, List.length_map, e4, zl6, a1]
    exact r1
   ·rcases a2 with ⟨j, g, rfl, rfl⟩ | ⟨g, rfl, rfl⟩
    ·exact .hit hkl (fun _ => Int.not_le.1 hc) (zjx hx.ne) g r4
    ·exact .miss hkl (fun _ => Int.not_le.1 hc) (zjx hx.ne) g r4
theorem zzX {T : Int} {m e : Nat} {C : List (List RT7)} (he : e <= 500) (hm : m <= 100) (hC : CG T m e C) (A : List RT0) (hA : A.length <= 100) (hpk : ∀ a ∈ A, za7 a) (i : Nat) (hi : i < C.length) (L : List Int) (hL : L.length = C.length) (t : List Bool) (ht : t.length = A.length) : ∀ (d k f : Nat), k + d = A.length -> d < f ->
  ∃ L' t', (zR 600).L f (zP C, A.map zB, (i : Int), (C.length : Int), (i : Int), (A.length : Int), (k : Int), zP C, C.length, A.map zB, A.length, ic L, bc t, C[i].map zM) = some (zP C, (C.length : Int), (i : Int), zP C, C.length, A.map zB, A.length, ic L', bc t') /\ ((∃ j, Hit zfN A t (evV (C[i].getLast (hC.xs i hi).ne)) k j /\ L' = L.set i (j : Int) /\ t' = t.set j true) \/ (zzk zfN A t (evV (C[i].getLast (hC.xs i hi).ne)) k /\ L' = L /\ t' = t)) := by
 have hle := hC.le
 have hx := hC.xs i hi
 have hxl := hx.le
 have hla := znf C[i] hx.ne (by omega)
 intro d
 induction d with
 | zero =>
  intro k f hk hf
  obtain ⟨f, rfl⟩ := pS hf
  refine ⟨L, t, ?_, .inr ⟨fun j h h' hk' => by omega, rfl, rfl⟩⟩
  show (zR 600).b _ _ ((zR 600).L f) some = _
  have e2 : decide ((k : Int) < (A.length : Int)) = false := dF (by omega)
  simp only [zR]
  simp only [e2, zC, zV]
 | succ d ih =>
  intro k f hk hf
  obtain ⟨f, rfl⟩ := pS hf
  have hkl : k < A.length := by omega
  have hkt : k < t.length := by omega
  have e2 : decide ((k : Int) < (A.length : Int)) = true := dT (by omega)
  have h0 : 0 <= (k : Int) := by omega
  have h1 : (k : Int) < (A.length : Int) := by omega
  have hi0 : 0 <= (i : Int) := by omega
  have hi1 : (i : Int) < (C.length : Int) := by omega
  have n1 := zp (show k < 1000000 by omega)
  obtain ⟨L', t', r1, r2⟩ := ih (k + 1) f (by omega) (by omega)
  have hnext : t[k] = true \/ ¬ zfN (evV (C[i].getLast hx.ne)) A[k] -> ((∃ j, Hit zfN A t (evV (C[i].getLast hx.ne)) k j /\ L' = L.set i (j : Int) /\ t' = t.set j true) \/ (zzk zfN A t (evV (C[i].getLast hx.ne)) k /\ L' = L /\ t' = t)) := fun hc => by
   rcases r2 with ⟨j, ⟨q1, q2, q3, q4, q5, q6⟩, q7⟩ | ⟨q1, q2⟩
   ·refine .inl ⟨j, ⟨q1, q2, by omega, q4, q5, fun z hz hz' h1 h2 h3 => ?_⟩, q7⟩
    by_cases e : k = z
    ·subst e
     rcases hc with hc | hc
     ·rw [h3] at hc; cases hc
     ·exact hc
    ·exact q6 z hz hz' (by omega) h2 h3
   ·refine .inr ⟨fun z hz hz' h1 h3 => ?_, q2⟩
    by_cases e : k = z
    ·subst e
     rcases hc with hc | hc
     ·rw [h3] at hc; cases hc
     ·exact hc
    ·exact q1 z hz hz' (by omega) h3
  have hM : ∃ b, zmk 600 (zy (C[i].getLast hx.ne), A[k]) = some b /\ (b = true ↔ zfN (evV (C[i].getLast hx.ne)) A[k]) := zDF hx.last.ev.pk (hpk _ (List.getElem_mem _))
  obtain ⟨b, m1, m2⟩ := hM
  cases hb : t[k] with
  | true =>
   refine ⟨L', t', ?_, hnext (.inl hb)⟩
   show (zR 600).b _ _ ((zR 600).L f) some = _
   generalize (zR 600).L f = Lf at r1 |-
   simp only [zR]
   simp only [e2, h0, h1, decide_true, and_self, if_true, Int.toNat_natCast, zcx A k hkl, ZF, Nat.zero_add, Nat.mul_one, zbW t k hkt, hb, Bool.not_true, zC, zV, n1]
   exact r1
  | false =>
   cases b with
   | false =>
    refine ⟨L', t', ?_, hnext (.inr fun h => by have := m2.2 h; cases this)⟩
    show (zR 600).b _ _ ((zR 600).L f) some = _
    generalize (zR 600).L f = Lf at r1 |-
    simp only [zR]
    simp only [e2, h0, h1, decide_true, and_self, if_true, Int.toNat_natCast, zcx A k hkl, ZF, Nat.zero_add, Nat.mul_one, zbW t k hkt, hb, Bool.not_false, hla, m1, zC, zV, n1]
    exact r1
   | true =>
    refine ⟨L.set i (k : Int), t.set k true, ?_, .inl ⟨k, ⟨hkl, hkt, Nat.le_refl _, hb, m2.1 rfl, fun z _ _ h1 h2 => by omega⟩, rfl, rfl⟩⟩
    show (zR 600).b _ _ ((zR 600).L f) some = _
    have b1 : i + 1 <= (ic L).length := by rw [zeK]; omega
    have b2 : k + 1 <= (bc t).length := by rw [zpe]; omega
    simp only [zR]
    simp only [e2, h0, h1, hi0, hi1, decide_true, and_self, if_true, Int.toNat_natCast, zcx A k hkl, ZF, Nat.zero_add, Nat.mul_one, zbW t k hkt, hb, Bool.not_false, hla, m1, b1, b2, znG, znC, zC, zV]
theorem zyE {T : Int} {m e : Nat} {C : List (List RT7)} (he : e <= 500) (hm : m <= 100) (hC : CG T m e C) (A : List RT0) (hA : A.length <= 100) (hpk : ∀ a ∈ A, za7 a) : ∀ (d k f : Nat) (L : List Int) (t : List Bool), k + d = C.length -> d < f -> L.length = C.length -> t.length = A.length ->
  ∃ L' t', (Zj 600).L f (zP C, (C.length : Int), (k : Int), zP C, C.length, A.map zB, A.length, ic L, bc t) = some (zP C, C.length, A.map zB, A.length, ic L', bc t') /\ L'.length = C.length /\ t'.length = A.length /\ Pass zfN C A k L t L' t' := by
 have hle := hC.le
 intro d
 induction d with
 | zero =>
  intro k f L t hk hf hL ht
  obtain ⟨f, rfl⟩ := pS hf
  refine ⟨L, t, ?_, hL, ht, .done (by omega)⟩
  show (Zj 600).b _ _ ((Zj 600).L f) some = _
  have e2 : decide ((k : Int) < (C.length : Int)) = false := dF (by omega)
  simp only [Zj]
  simp only [e2, zC, zV]
 | succ d ih =>
  intro k f L t hk hf hL ht
  obtain ⟨f, rfl⟩ := pS hf
  have hkl : k < C.length := by omega
  have hkL : k < L.length := by omega
  have hx := hC.xs k hkl
  have e2 : decide ((k : Int) < (C.length : Int)) = true := dT (by omega)
  have h0 : 0 <= (k : Int) := by omega
  have h1 : (k : Int) < (C.length : Int) := by omega
  have n1 := zp (show k < 1000000 by omega)
  by_cases hc : 0 <= L[k]
  ·obtain ⟨L', t', r1, r2, r3, r4⟩ := ih (k + 1) f L t (by omega) (by omega) hL ht
   refine ⟨L', t', ?_, r2, r3, .skip hkl (fun _ => hc) r4⟩
   show (Zj 600).b _ _ ((Zj 600).L f) some = _
   generalize (Zj 600).L f = Lf at r1 |-
   have e3 : decide (L[k] >= 0) = true := dT (by omega)
   simp only [Zj]
   simp only [e2, h0, h1, decide_true, and_self, if_true, Int.toNat_natCast, Zc C k hkl, rd6, Nat.zero_add, Nat.mul_one, JE L k hkL, e3, zC, zV, n1]
   exact r1
  ·have e3 : decide (L[k] >= 0) = false := dF (by omega)
   have hp := hx.pos
   have e4 : ((C[k].length : Int) == 0) = false := by rw [beq_eq_false_iff_ne]; omega
   obtain ⟨L1, t1, a1, a2⟩ := zzX he hm hC A hA hpk k hkl L hL t ht A.length 0 600 (by omega) (by omega)
   replace a1 : (zR 600).L 600 (zP C, A.map zB, (k : Int), (C.length : Int), (k : Int), (A.length : Int), 0, zP C, C.length, A.map zB, A.length, ic L, bc t, C[k].map zM) = _ := a1
   have hlt : L1.length = C.length /\ t1.length = A.length := by
    rcases a2 with ⟨j, _, rfl, rfl⟩ | ⟨_, rfl, rfl⟩
    ·simp [hL, ht]
    ·exact ⟨hL, ht⟩
   obtain ⟨L', t', r1, r2, r3, r4⟩ := ih (k + 1) f L1 t1 (by omega) (by omega) hlt.1 hlt.2
   refine ⟨L', t', ?_, r2, r3, ?_⟩
   ·show (Zj 600).b _ _ ((Zj 600).L f) some = _
    generalize (Zj 600).L f = Lf at r1 |-
    simp only [Zj]
    simp only [e2, h0, h1, decide_true, and_self, if_true, Int.toNat_natCast, Zc C k hkl, rd6, Nat.zero_add, Nat.mul_one, JE L k hkL, e3, zC, zV, n1, List.length_map, e4, ziF, a1]
    exact r1
   ·rcases a2 with ⟨j, g, rfl, rfl⟩ | ⟨g, rfl, rfl⟩
    ·exact .hit hkl (fun _ => Int.not_le.1 hc) (zjx hx.ne) g r4
    ·exact .miss hkl (fun _ => Int.not_le.1 hc) (zjx hx.ne) g r4
def FolP (C : List (List RT7)) (A : List RT0) (L : List Int) : Prop := ∃ L1 t1 t2, Pass SameN C A 0 (List.replicate C.length (-1)) (List.replicate A.length false) L1 t1 /\ Pass zfN C A 0 L1 t1 L t2
theorem ztp {T : Int} {m e : Nat} {C : List (List RT7)} (he : e <= 63) (hm : m <= 100) (hC : CG T m e C) (A : List RT0) (hA : A.length <= 100) (hpk : ∀ a ∈ A, za7 a) : ∃ L : List Int, zst 600 (zP C, A.map zB) = some (zA L) /\ L.length = C.length /\ FolP C A L := by
 have hle := hC.le
 have hr := zz9 C.length (by omega)
 obtain ⟨L1, t1, a1, a2, a3, a4⟩ := zyN (by omega) hm hC A hA hpk C.length 0 600 (List.replicate C.length (-1)) (List.replicate A.length false) (by omega) (by omega) (by simp) (by simp)
 replace a1 : (ZK 600).L 600 (zP C, (C.length : Int), 0, zP C, C.length, A.map zB, A.length, ic (List.replicate C.length (-1)), bc (List.replicate A.length false)) = _ := a1
 obtain ⟨L2, t2, b1, b2, b3, b4⟩ := zyE (by omega) hm hC A hA hpk C.length 0 600 L1 t1 (by omega) (by omega) a2 a3
 replace b1 : (Zj 600).L 600 (zP C, (C.length : Int), 0, zP C, C.length, A.map zB, A.length, ic L1, bc t1) = _ := b1
 have c1 : (0 <= (A.length : Int) /\ (A.length : Int) <= (A.length : Int) /\ (A.length : Int).toNat * 1 <= zh) = True := by unfold zh; simp; omega
 have c2 : C.length * 1 <= (ic L2).length := by rw [zeK]; omega
 have c3 := zxB L2
 rw [b2] at c3
 refine ⟨L2, ?_, b2, L1, t1, t2, a4, b4⟩
 have d1 : zw0 600 (zP C, C.length, A.map zB, A.length, ic (List.replicate C.length (-1)), bc (List.replicate A.length false)) = some (zP C, C.length, A.map zB, A.length, ic L1, bc t1) := by
  simp only [zw0, FSpec.d, zdT, zvT, zU, zC, zV, a1]
 have d2 : zlM 600 (zP C, C.length, A.map zB, A.length, ic L1, bc t1) = some (zP C, C.length, A.map zB, A.length, ic L2, bc t2) := by
  simp only [zlM, FSpec.d, zak, zo1, zU, zC, zV, b1]
 simp only [zst, FSpec.d, zd1, zU, hr, List.length_map]
 rw [if_pos (of_eq_true c1)]
 simp only [Int.toNat_natCast, zv1, zC, zV, d1, d2]
 exact (if_pos c2).trans (by rw [c3])
end Go.Proofs.YthdgnfcbehcplaaDoor
end
section
namespace Go.Proofs.YthdgnfcbehcplaaDoor
noncomputable def zbo (A : List RT0) (t : Int) (x : List RT7) (k : Int) : List RT7 := match x.getLast? with
 | some u => match Jb A t u k with | some v => x ++ [v] | none => x
 | none => x
noncomputable def zew (A : List RT0) (t : Int) : Nat -> List (List RT7) -> List Int -> List Int
 | k, x :: C, l :: L => match x.getLast? with
  | some u => match Jb A t u l with | some _ => (k : Int) :: zew A t (k + 1) C L | none => zew A t (k + 1) C L
  | none => zew A t (k + 1) C L
 | _, _, _ => []
def tkF : List Bool -> List Int -> List Bool
 | t, [] => t
 | t, x :: L => tkF (if 0 <= x then t.set x.toNat true else t) L
theorem zfw : ∀ (L : List Int) (t : List Bool), (tkF t L).length = t.length
 | [], _ => rfl
 | x :: L, t => by
  show (tkF _ L).length = _
  rw [zfw L]
  split <;> simp
def news (t : Int) : List RT0 -> List Bool -> List (List RT7)
 | a :: A, b :: T => if b = true then news t A T else [zab t a] :: news t A T
 | _, _ => []
theorem zjo {x : List RT7} (h : x ≠ []) : x.getLast? = some (x.getLast h) := List.getLast?_eq_some_getLast h
theorem zba {A : List RT0} {t : Int} {u : RT7} {z : Nat} (ho : Z7 (kdV u) = true) (hz : z < A.length) (h : JZ (kdV u) = true /\ evV u = A[z]) : Jb A t u (z : Int) = none := by
 unfold Jb
 rw [if_pos ho, dif_pos ⟨by omega, by omega⟩]
 simp only [Int.toNat_natCast]
 rw [if_pos h]
theorem zeV {A : List RT0} {t : Int} {u : RT7} {z : Nat} (ho : Z7 (kdV u) = true) (hz : z < A.length) (h : ¬ (JZ (kdV u) = true /\ evV u = A[z])) : Jb A t u (z : Int) = some (zab t A[z]) := by
 unfold Jb
 rw [if_pos ho, dif_pos ⟨by omega, by omega⟩]
 simp only [Int.toNat_natCast]
 rw [if_neg h]
theorem pp35 {A : List RT0} (hA : ∀ a ∈ A, EvG a) {t : Int} {u : RT7} {n0 i0 : Nat} {T : Int} (hu : VG T n0 i0 u) (ho : Z7 (kdV u) = true) (z : Nat) (hz : z < A.length) (ch fl : List (List AV)) (n off N : Nat) (i lL : Int) (X : List (List AV)) (cs ci : List AV) (hcs : cs.map datF = cs) (hci : ci.map dat0 = ci) (jM : Nat × Nat) :
  (zfz 600 (ch, A.map zB, fl, t, n, i, (z : Int), off, lL, i, X, N, u, cs, ci, jM) = some (.inl (ch, A.map zB, fl, t, n, i, (z : Int), off, lL, i, X, N, cs, ci, jM)) /\ Jb A t u (z : Int) = none) \/ (zfz 600 (ch, A.map zB, fl, t, n, i, (z : Int), off, lL, i, X, N, u, cs, ci, jM) = some (.inr (ch, A.map zB, fl, t, n, i, (z : Int), off, lL, i, X, N, cs, ci, jM)) /\ Jb A t u (z : Int) = some (zab t A[z])) := by
 have hu' : ∀ y, (jy 600).b (ch, A.map zB, fl, t, n, i, (z : Int), off, lL, i, X, N, u, cs, ci, jM) _ ((jy 600).L 599) some = y -> zfz 600 (ch, A.map zB, fl, t, n, i, (z : Int), off, lL, i, X, N, u, cs, ci, jM) = y := fun y h => h
 have hts := zuI hu.kd
 have q7 : 0 <= u.1 /\ u.1 < 7 := ⟨hu.kd.lt.1, hu.kd.lt.2.1⟩
 have hz0 : 0 <= (z : Int) := by omega
 simp only [kdV] at hts
 cases hsh : JZ u.1 with
 | false =>
  rw [hsh] at hts
  refine .inr ⟨hu' _ ?_, zeV ho hz (fun h => by rw [kdV, hsh] at h; cases h.1)⟩
  simp only [jy]
  simp only [q7, and_self, if_true, hts, hcs, hci]
 | true =>
  rw [hsh] at hts
  obtain ⟨b, w1, w2⟩ := ziM (evV u) A[z] hu.ev.pk (hA _ (List.getElem_mem _)).pk
  replace w1 : zkG 600 (zy u, A[z]) = some b := w1
  cases b with
  | true =>
   refine .inl ⟨hu' _ ?_, zba ho hz ⟨hsh, w2.1 rfl⟩⟩
   simp only [jy]
   simp only [q7, and_self, if_true, hts, hcs, hci, hz0, Int.toNat_natCast, zcx A z hz, ZF, w1]
  | false =>
   refine .inr ⟨hu' _ ?_, zeV ho hz (fun h => by have := w2.2 h.2; cases this)⟩
   simp only [jy]
   simp only [q7, and_self, if_true, hts, hcs, hci, hz0, Int.toNat_natCast, zcx A z hz, ZF, w1]
theorem pp33 {A : List RT0} (hA : ∀ a ∈ A, EvG a) {t : Int} {u : RT7} {n0 i0 : Nat} {T : Int} (hu : VG T n0 i0 u) (ho : Z7 (kdV u) = true) {k : Int} (hk : -1 <= k /\ k < A.length) (ch fl : List (List AV)) (n : Nat) (i : Nat) (lL : Int) (X : List (List AV)) {D : List (List RT7)} {j : Nat} {cs : List AV} (hF : FC D j cs) (hi : i < D.length) (hj : j <= i) (hl : D[i].length <= 1000) (ci : List AV) (hci : ci.map dat0 = ci) :
  (Jb A t u k = none /\ zfl 600 (ch, A.map zB, fl, t, n, (i : Int), k, i, lL, (i : Int), decide (k >= 0), X, D.length, u, cs, ci, j, D.length) = some (.inl (ch, A.map zB, fl, t, n, (i : Int), i, lL, (i : Int), X, D.length, cs, ci, j, D.length))) \/ (∃ v cs', Jb A t u k = some v /\ FC (D.set i (D[i] ++ [v])) (i + 1) cs' /\ zfl 600 (ch, A.map zB, fl, t, n, (i : Int), k, i, lL, (i : Int), decide (k >= 0), X, D.length, u, cs, ci, j, D.length) = some (.inr (ch, A.map zB, fl, t, n, (i : Int), i, lL, (i : Int), X, D.length, cs', ci, i + 1, D.length))) := by
 have hu' : ∀ y, (jg 600).b (ch, A.map zB, fl, t, n, (i : Int), k, i, lL, (i : Int), decide (k >= 0), X, D.length, u, cs, ci, j, D.length) _ ((jg 600).L 599) some = y -> zfl 600 (ch, A.map zB, fl, t, n, (i : Int), k, i, lL, (i : Int), decide (k >= 0), X, D.length, u, cs, ci, j, D.length) = y := fun y h => h
 obtain ⟨tk, q3, _, q4⟩ := hF.2 i hi
 rw [q4 hj] at q3
 have b2 : i + 1 <= cs.length := by rw [hF.1]; omega
 by_cases hk0 : 0 <= k
 ·obtain ⟨z, rfl⟩ : ∃ z : Nat, k = (z : Int) := ⟨k.toNat, by omega⟩
  have hz : z < A.length := by omega
  have e1 : decide ((z : Int) >= 0) = true := dT (by omega)
  rcases pp35 hA hu ho (t := t) z hz ch fl n i D.length (i : Int) lL X cs ci hF.dF hci (j, D.length) with ⟨p1, p2⟩ | ⟨p1, p2⟩
  ·refine .inl ⟨p2, hu' _ ?_⟩
   simp only [jg]
   simp only [e1, hF.dF, hci, p1]
  ·have hc := za2 (hA A[z] (List.getElem_mem _)).pk
   have b1 : ((D[i].map zM).length + 1) * 288 <= zh := by unfold zh; simp; omega
   refine .inr ⟨zab t A[z], _, p2, (hF.to hj).set hi (D[i] ++ [zab t A[z]]) (q := 7040) (by unfold TOB; omega), hu' _ ?_⟩
   simp only [jg]
   simp only [e1, hF.dF, hci, p1, Nat.add_zero, q3, hj, hi, and_self, if_true, hk0, Int.toNat_natCast, zcx A z hz, ZF, hc, b2, List.length_cons, List.length_nil, Nat.zero_add]
   refine (if_pos b1).trans ?_
   rw [List.map_append]
   rfl
 ·have e1 : decide (k >= 0) = false := dF (by omega)
  by_cases h2 : kdV u = 2
  ·have e2 : (u.1 == 2) = true := by simpa using h2
   refine .inl ⟨?_, hu' _ ?_⟩
   ·unfold Jb
    rw [if_pos ho, dif_neg (fun h => hk0 h.1), if_pos h2]
   ·simp only [jg]
    simp only [e1, e2, hF.dF, hci]
  ·have e2 : (u.1 == 2) = false := by simpa using h2
   have hc : zd5 600 (zy u) = some (evV u) := za2 hu.ev.pk
   have b1 : ((D[i].map zM).length + 1) * 288 <= zh := by unfold zh; simp; omega
   refine .inr ⟨zlu t (evV u), _, ?_, (hF.to hj).set hi (D[i] ++ [zlu t (evV u)]) (q := 4672) (by unfold TOB; omega), hu' _ ?_⟩
   ·unfold Jb
    rw [if_pos ho, dif_neg (fun h => hk0 h.1), if_neg h2]
   ·simp only [jg]
    simp only [e1, e2, hF.dF, hci, Nat.add_zero, q3, hj, hi, and_self, if_true, hc, b2, List.length_cons, List.length_nil, Nat.zero_add]
    refine (if_pos b1).trans ?_
    rw [List.map_append]
    rfl
theorem pp27 (A : List RT0) (t : Int) (u : RT7) {k : Int} (hk : -1 <= k /\ k < A.length) (ch fl : List (List AV)) (i : Nat) (lL : Int) (X : List (List AV)) (N : Nat) (cs : List AV) (hcs : cs.map datF = cs) (tk : List Bool) (ht : tk.length = A.length) (jM : Nat × Nat) :
  zme 600 (ch, A.map zB, fl, t, A.length, (i : Int), k, i, lL, (i : Int), decide (k >= 0), X, N, u, cs, bc tk, jM) = some (ch, A.map zB, fl, t, A.length, (i : Int), k, i, lL, (i : Int), X, N, u, cs, bc (if 0 <= k then tk.set k.toNat true else tk), jM) := by
 show (Jh 600).b _ _ ((Jh 600).L 599) some = _
 simp only [Jh]
 by_cases hk0 : 0 <= k
 ·have e1 : decide (k >= 0) = true := dT (by omega)
  have b1 : k.toNat + 1 <= (bc tk).length := by rw [zpe]; omega
  simp only [e1, hk0, hk.2, decide_true, ge_iff_le, and_self, if_true, Nat.zero_add, Nat.mul_one, b1, hcs, znC, zV]
 ·have e1 : decide (k >= 0) = false := dF (by omega)
  simp only [e1, hk0, ge_iff_le, decide_false, if_false, hcs, zV]
theorem rd6t (xs : List (List AV)) (t : Option Nat) (r : List AV) : zf1 (AV.list 29 xs t :: r) = some (xs, ()) := by
 show dec RK6 _ = _
 simp only [dec, zma, ju, if_true]
theorem zxa {α : Type} (P C : List α) (k : Nat) (h : P.length = k) (hk : k < C.length) (y : α) : (P ++ C.drop k).set k y = (P ++ [y]) ++ C.drop (k + 1) := by
 subst h
 rw [List.drop_eq_getElem_cons hk, List.set_append_right _ _ (Nat.le_refl _), Nat.sub_self, List.set_cons_zero, List.append_assoc, List.singleton_append]
theorem znQ {T t : Int} {m e : Nat} {C : List (List RT7)} (hC : CG T m e C) (he : e <= 500) (hm : m < 100) (A : List RT0) (hA : ∀ a ∈ A, EvG a) (L : List Int) (hL : L.length = C.length) (hr : Rg A.length L) (X : List (List AV)) : ∀ (d k f : Nat) (ch : List Int) (P : List (List RT7)) (cs : List AV) (tk : List Bool) (j : Nat), k + d = C.length -> d < f -> j <= k -> ch.length <= k -> P.length = k -> tk.length = A.length -> FC (P ++ C.drop k) j cs ->
  ∃ (cs' : List AV) (j' : Nat), (zY 600).L f (zA ch, A.map zB, zA L, t, A.length, (C.length : Int), (k : Int), X, C.length, cs, bc tk, j, C.length) = some (.inr (zA (ch ++ zew A t k (C.drop k) (L.drop k)), A.map zB, t, A.length, X, C.length, cs', bc (tkF tk (L.drop k)), j', C.length)) /\ FC (P ++ List.zipWith (zbo A t) (C.drop k) (L.drop k)) j' cs' := by
 have hle := hC.le
 intro d
 induction d with
 | zero =>
  intro k f ch P cs tk j hk hf hj hch hP ht hF
  obtain ⟨f, rfl⟩ := pS hf
  have d1 : C.drop k = [] := List.drop_eq_nil_of_le (by omega)
  have d2 : L.drop k = [] := List.drop_eq_nil_of_le (by omega)
  rw [d1] at hF
  refine ⟨cs, j, ?_, by rw [d1]; simpa using hF⟩
  show (zY 600).b _ _ ((zY 600).L f) some = _
  have e2 : decide ((k : Int) < (C.length : Int)) = false := dF (by omega)
  simp only [zY]
  simp only [e2, zV, hF.dF, d1, d2, zew, tkF, List.append_nil]
 | succ d ih =>
  intro k f ch P cs tk j hk hf hj hch hP ht hF
  obtain ⟨f, rfl⟩ := pS hf
  have hkl : k < C.length := by omega
  have hkL : k < L.length := by omega
  have d1 := List.drop_eq_getElem_cons hkl
  have d2 := List.drop_eq_getElem_cons hkL
  have hDl : (P ++ C.drop k).length = C.length := by simp; omega
  have hkd : k < (P ++ C.drop k).length := by omega
  have hDk : (P ++ C.drop k)[k] = C[k] := by
   rw [List.getElem_append_right (by omega)]
   simp [hP]
  have e2 : decide ((k : Int) < (C.length : Int)) = true := dT (by omega)
  have h0 : 0 <= (k : Int) := by omega
  have hk1 : (k : Int) < (C.length : Int) := by omega
  have hx := hC.xs k hkl
  have hxl := hx.le
  have hla := znf C[k] hx.ne (by omega)
  have hlq := zjo hx.ne
  obtain ⟨u, hu⟩ : ∃ u, u = C[k].getLast hx.ne := ⟨_, rfl⟩
  have hLast := hx.last
  rw [<- hu] at hla hLast hlq
  have hop := zAI hLast.kd
  simp only [kdV] at hop
  have hrk := hr _ (List.getElem_mem hkL)
  obtain ⟨tk', htk⟩ : ∃ tk', tk' = if 0 <= L[k] then tk.set L[k].toNat true else tk := ⟨_, rfl⟩
  have htl : tk'.length = A.length := by rw [htk]; split <;> simp [ht]
  have a27 := pp27 A t u hrk (zA ch) (zA L) k (C.length : Int) X C.length cs hF.dF tk ht (j, C.length)
  rw [<- htk] at a27
  have n1 := zp (show k < 1000000 by omega)
  have g1 : (zA L)[k]? = some [I L[k]] := zdg L k hkL
  have g2 : ([I L[k]] : List AV)[0]? = some (AV.v (.int .i64 L[k])) := rfl
  obtain ⟨tok, q3, _, q4⟩ := hF.2 k hkd
  rw [hDk] at q3
  have hkc : k < cs.length := by rw [hF.1]; omega
  have g3 : zf1 (cs.drop k) = some (C[k].map zM, ()) := by
   rw [List.drop_eq_getElem_cons hkc]
   rw [List.getElem?_eq_getElem hkc] at q3
   rw [Option.some.inj q3, rd6t]
  have hz : List.zipWith (zbo A t) (C.drop k) (L.drop k) = zbo A t C[k] L[k] :: List.zipWith (zbo A t) (C.drop (k + 1)) (L.drop (k + 1)) := by rw [d1, d2]; rfl
  have htF : tkF tk (L.drop k) = tkF tk' (L.drop (k + 1)) := by rw [d2, htk]; rfl
  have hsame : Jb A t u L[k] = none -> zbo A t C[k] L[k] = C[k] /\ zew A t k (C.drop k) (L.drop k) = zew A t (k + 1) (C.drop (k + 1)) (L.drop (k + 1)) := fun h => by
   rw [d1, d2]
   simp only [zbo, zew, hlq, h, and_self]
  have hkeep : Jb A t u L[k] = none -> ∃ (cs' : List AV) (j' : Nat), (zY 600).L f (zA ch, A.map zB, zA L, t, A.length, (C.length : Int), ((k + 1 : Nat) : Int), X, C.length, cs, bc tk', j, C.length) = some (.inr (zA (ch ++ zew A t k (C.drop k) (L.drop k)), A.map zB, t, A.length, X, C.length, cs', bc (tkF tk (L.drop k)), j', C.length)) /\ FC (P ++ List.zipWith (zbo A t) (C.drop k) (L.drop k)) j' cs' := fun h => by
   obtain ⟨s1, s2⟩ := hsame h
   have hF' : FC ((P ++ [C[k]]) ++ C.drop (k + 1)) j cs := by rw [List.append_assoc, List.singleton_append, <- d1]; exact hF
   obtain ⟨cs', j', r1, r2⟩ := ih (k + 1) f ch (P ++ [C[k]]) cs tk' j (by omega) (by omega) (by omega) (by omega) (by simp [hP]) htl hF'
   refine ⟨cs', j', ?_, ?_⟩
   ·rw [s2, htF]; exact r1
   ·rw [hz, s1]; rw [List.append_assoc, List.singleton_append] at r2; exact r2
  cases hoc : Z7 u.1 with
  | false =>
   have hnv : Jb A t u L[k] = none := by
    unfold Jb
    rw [if_neg (by rw [kdV, hoc]; decide)]
   obtain ⟨cs', j', r1, r2⟩ := hkeep hnv
   refine ⟨cs', j', ?_, r2⟩
   show (zY 600).b _ _ ((zY 600).L f) some = _
   generalize (zY 600).L f = Lf at r1 |-
   rw [hoc] at hop
   simp only [zY]
   simp only [e2, h0, hk1, decide_true, and_self, if_true, Int.toNat_natCast, g1, g2, Nat.zero_add, Nat.mul_one, g3, hla, hF.dF, zV, a27, hop, Bool.not_false, n1]
   exact r1
  | true =>
   rw [hoc] at hop
   have h33 := pp33 hA hLast hoc (t := t) hrk (zA ch) (zA L) A.length k (C.length : Int) X hF hkd hj (by rw [hDk]; omega) (bc tk') (zV tk')
   rw [hDl] at h33
   rcases h33 with ⟨hnv, a33⟩ | ⟨v, cs1, hnv, hF1, a33⟩
   ·obtain ⟨cs', j', r1, r2⟩ := hkeep hnv
    refine ⟨cs', j', ?_, r2⟩
    show (zY 600).b _ _ ((zY 600).L f) some = _
    generalize (zY 600).L f = Lf at r1 |-
    simp only [zY]
    simp only [e2, h0, hk1, decide_true, and_self, if_true, Int.toNat_natCast, g1, g2, Nat.zero_add, Nat.mul_one, g3, hla, hF.dF, zV, a27, hop, Bool.not_true, a33, n1]
    exact r1
   ·have s1 : zbo A t C[k] L[k] = C[k] ++ [v] := by simp only [zbo, hlq, hnv]
    have s2 : zew A t k (C.drop k) (L.drop k) = (k : Int) :: zew A t (k + 1) (C.drop (k + 1)) (L.drop (k + 1)) := by
     rw [d1, d2]
     simp only [zew, hlq, hnv]
    obtain ⟨tok2, y3, _, _⟩ := hF1.2 k (by simpa using hkd)
    rw [List.getElem_set_self, hDk] at y3
    have l1 : ju 29 (AV.list 29 ((C[k] ++ [v]).map zM) tok2) = some ((C[k] ++ [v]).map zM) := by simp [ju]
    have c1 : decide ((((C[k] ++ [v]).map zM).length : Int) > 100) = false := by rw [decide_eq_false_iff_not]; simp; omega
    rw [hDk, zxa P C k hP hkl] at hF1
    obtain ⟨cs', j', r1, r2⟩ := ih (k + 1) f (ch ++ [(k : Int)]) (P ++ [C[k] ++ [v]]) cs1 tk' (k + 1) (by omega) (by omega) (by omega) (by simp; omega) (by simp [hP]) htl hF1
    refine ⟨cs', j', ?_, ?_⟩
    ·have b3 : ((zA ch).length + 1) * 8 <= zh := by rw [jT]; unfold zh; omega
     have r0 : zA (ch ++ [(k : Int)]) = zA ch ++ [[AV.v (.int .i64 (k : Int))]] := by simp [zA]
     rw [s2, htF]
     rw [r0, List.append_assoc, List.singleton_append] at r1
     show (zY 600).b _ _ ((zY 600).L f) some = _
     generalize (zY 600).L f = Lf at r1 |-
     simp only [zY]
     simp only [e2, h0, hk1, decide_true, and_self, if_true, Int.toNat_natCast, g1, g2, Nat.zero_add, Nat.mul_one, Nat.add_zero, g3, hla, hF.dF, zV, a27, hop, Bool.not_true, a33, n1, y3, l1, c1, b3, hF1.dF, List.length_cons, List.length_nil]
     exact r1
    ·rw [hz, s1]; rw [List.append_assoc, List.singleton_append] at r2; exact r2
end Go.Proofs.YthdgnfcbehcplaaDoor
end
section
namespace Go.Proofs.YthdgnfcbehcplaaDoor
theorem zcu {t : Int} : ∀ {A : List RT0} {T : List Bool} {x : List RT7}, x ∈ news t A T -> ∃ a ∈ A, x = [zab t a]
 | [], _, _, h => by cases h
 | a :: A, [], _, h => by cases h
 | a :: A, b :: T, x, h => by
  simp only [news] at h
  split at h
  ·obtain ⟨a', h1, h2⟩ := zcu h
   exact ⟨a', List.mem_cons_of_mem _ h1, h2⟩
  ·rcases List.mem_cons.1 h with h | h
   ·exact ⟨a, List.mem_cons_self, h⟩
   ·obtain ⟨a', h1, h2⟩ := zcu h
    exact ⟨a', List.mem_cons_of_mem _ h1, h2⟩
theorem zik (t : Int) : ∀ (A : List RT0) (T : List Bool), (news t A T).length <= A.length
 | [], _ => Nat.le_refl _
 | a :: A, [] => Nat.zero_le _
 | a :: A, b :: T => by
  have := zik t A T
  simp only [news]
  split
  ·simp; omega
  ·simp; omega
noncomputable def zbJ (C : List (List RT7)) (A : List RT0) (L : List Int) (t : Int) : List (List RT7) := List.zipWith (zbo A t) C L ++ news t A (tkF (List.replicate A.length false) L)
theorem zdy {C : List (List RT7)} {L : List Int} (h : L.length = C.length) (A : List RT0) (t : Int) : (List.zipWith (zbo A t) C L).length = C.length := by simp [h]
theorem zzi {A : List RT0} (hA : ∀ a ∈ A, EvG a) {T t : Int} {n n' i m : Nat} {x : List RT7} (hx : XG T n i m x) (hT : T <= t) (hn : n <= n') (k : Int) : XG t n' i (m + 1) (zbo A t x k) := by
 unfold zbo
 rw [zjo hx.ne]
 dsimp only
 cases hv : Jb A t (x.getLast hx.ne) k with
 | none => exact hx.mono hT hn (by omega)
 | some v =>
  obtain ⟨g1, g2⟩ := zwq hA hx hT hv
  exact (hx.snoc hT g1 g2).mono (Int.le_refl _) hn (Nat.le_refl _)
theorem zzF {α : Type} (P Q : List α) (k : Nat) (h : k < P.length) (h' : k < (P ++ Q).length) : (P ++ Q)[k] = P[k] := List.getElem_append_left h
theorem zDS {α : Type} (P Q : List α) (k : Nat) (h : P.length <= k) (h' : k < (P ++ Q).length) : (P ++ Q)[k] = Q[k - P.length]'(by simp at h'; omega) := List.getElem_append_right h
theorem CG.pub {T t : Int} {m e : Nat} {C : List (List RT7)} (hC : CG T m e C) (hT : T <= t) (h0 : 0 <= t) {A : List RT0} (hA : ∀ a ∈ A, EvG a) {L : List Int} (hL : L.length = C.length) : CG t (m + 1) (e + A.length) (zbJ C A L t) := by
 have hz := zdy hL A t
 have hn := zik t A (tkF (List.replicate A.length false) L)
 have hle := hC.le
 have hl : C.length <= (zbJ C A L t).length := by unfold zbJ; rw [List.length_append, hz]; omega
 refine ⟨fun k hk => ?_, by unfold zbJ; rw [List.length_append, hz]; omega⟩
 by_cases h : k < C.length
 ·have e : (zbJ C A L t)[k] = zbo A t C[k] (L[k]'(by omega)) := by
   refine (zzF (List.zipWith (zbo A t) C L) _ k (by rw [hz]; exact h) hk).trans ?_
   rw [List.getElem_zipWith]
  rw [e]
  exact zzi hA (hC.xs k h) hT hl _
 ·have hm : (zbJ C A L t)[k] ∈ news t A (tkF (List.replicate A.length false) L) := by
   have e : (zbJ C A L t)[k] = _ := zDS (List.zipWith (zbo A t) C L) _ k (by rw [hz]; omega) hk
   rw [e]
   exact List.getElem_mem _
  obtain ⟨a, h1, h2⟩ := zcu hm
  rw [h2]
  exact XG.one (by omega) (zpP (T := t) h0 (hA a h1)) rfl
theorem zim {t : Int} (A : List RT0) (hA : ∀ a ∈ A, EvG a) (hAl : A.length <= 100) (tk : List Bool) (ht : tk.length = A.length) (X : List (List AV)) : ∀ (d k f : Nat) (ch : List Int) (D : List (List RT7)), k + d = A.length -> d < f -> D.length + d <= 500 -> ch.length <= D.length ->
  (ZA 600).L f (zA ch, A.map zB, t, A.length, (A.length : Int), (k : Int), X, D.length, bc tk, zah D) = some (zA (ch ++ (List.range' D.length (news t (A.drop k) (tk.drop k)).length).map fun x : Nat => (x : Int)), X, (D ++ news t (A.drop k) (tk.drop k)).length, zah (D ++ news t (A.drop k) (tk.drop k))) := by
 intro d
 induction d with
 | zero =>
  intro k f ch D hk hf he hch
  obtain ⟨f, rfl⟩ := pS hf
  show (ZA 600).b _ _ ((ZA 600).L f) some = _
  have e2 : decide ((k : Int) < (A.length : Int)) = false := dF (by omega)
  have d1 : A.drop k = [] := List.drop_eq_nil_of_le (by omega)
  simp only [ZA]
  simp only [e2, jO, d1, news, List.append_nil, List.length_nil, List.range'_zero, List.map_nil]
 | succ d ih =>
  intro k f ch D hk hf he hch
  obtain ⟨f, rfl⟩ := pS hf
  have hkl : k < A.length := by omega
  have hkt : k < tk.length := by omega
  have d1 := List.drop_eq_getElem_cons hkl
  have d2 := List.drop_eq_getElem_cons hkt
  have e2 : decide ((k : Int) < (A.length : Int)) = true := dT (by omega)
  have h0 : 0 <= (k : Int) := by omega
  have h1 : (k : Int) < (A.length : Int) := by omega
  have n1 := zp (show k < 1000000 by omega)
  show (ZA 600).b _ _ ((ZA 600).L f) some = _
  cases hb : tk[k] with
  | true =>
   have r1 := ih (k + 1) f ch D (by omega) (by omega) (by omega) hch
   generalize (ZA 600).L f = Lf at r1 |-
   have hn : news t (A.drop k) (tk.drop k) = news t (A.drop (k + 1)) (tk.drop (k + 1)) := by
    rw [d1, d2]; simp only [news, hb, if_true]
   simp only [ZA]
   simp only [e2, h0, h1, decide_true, and_self, if_true, Int.toNat_natCast, zcx A k hkl, ZF, Nat.zero_add, Nat.mul_one, zbW tk k hkt, hb, Bool.not_true, zV, jO, n1, hn]
   exact r1
  | false =>
   have r1 := ih (k + 1) f (ch ++ [(D.length : Int)]) (D ++ [[zab t A[k]]]) (by omega) (by omega) (by simp; omega) (by simp; omega)
   obtain ⟨Lf, hLf⟩ : ∃ Lf, Lf = (ZA 600).L f := ⟨_, rfl⟩
   have hn : news t (A.drop k) (tk.drop k) = [zab t A[k]] :: news t (A.drop (k + 1)) (tk.drop (k + 1)) := by
    rw [d1, d2]; simp only [news, hb, Bool.false_eq_true, if_false]
   have hl1 : (D ++ [[zab t A[k]]]).length = D.length + 1 := by simp
   have r0 : zA (ch ++ [(D.length : Int)]) = zA ch ++ [[AV.v (.int .i64 ((D.length : Nat) : Int))]] := by simp [zA]
   rw [List.append_assoc, List.append_assoc, List.singleton_append, List.singleton_append, <- hn, hl1, <- ziz, r0] at r1
   have hr' : ∀ q : Nat, (((List.range' D.length (q + 1)).map fun x : Nat => (x : Int))) = (D.length : Int) :: (List.range' (D.length + 1) q).map fun x : Nat => (x : Int) := fun q => by
    rw [List.range'_succ, List.map_cons]
   have hnl : (news t (A.drop k) (tk.drop k)).length = (news t (A.drop (k + 1)) (tk.drop (k + 1))).length + 1 := by rw [hn]; simp
   rw [<- hr', <- hnl] at r1
   rw [<- hLf] at r1 |-
   have hc := za2 (hA A[k] (List.getElem_mem _)).pk
   have b1 : ((zA ch).length + 1) * 8 <= zh := by rw [jT]; unfold zh; omega
   have b2 : (D.length * 1 <= (zah D).length /\ (D.length + 1) * 24 <= zh) := by rw [zaM]; unfold zh; omega
   simp only [ZA]
   simp only [e2, h0, h1, decide_true, and_self, if_true, Int.toNat_natCast, zcx A k hkl, ZF, Nat.zero_add, zV, jO, n1, List.length_cons, List.length_nil, b1, hc]
   simp only [Nat.mul_one, zbW tk k hkt, hb, Bool.not_false]
   rw [Nat.mul_one] at b2 r1
   exact (if_pos b2).trans r1
structure FInv (A : List RT0) (n : Nat) (o : List Int) (t : List Bool) : Prop where
 ol : o.length = n
 tl : t.length = A.length
 rg : Rg A.length o
 tk : ∀ i (h : i < o.length) (j : Nat) (hj : j < t.length), o[i] = (j : Int) -> t[j] = true
 inj : ∀ i i' (h : i < o.length) (h' : i' < o.length), 0 <= o[i] -> o[i] = o[i'] -> i = i'
theorem Pass.inv {M : RT0 -> RT0 -> Prop} {C : List (List RT7)} {A : List RT0} {k : Nat} {o o' : List Int} {t t' : List Bool} (h : Pass M C A k o t o' t') (n : Nat) (hi : FInv A n o t) : FInv A n o' t' := by
 induction h with
 | done _ => exact hi
 | skip _ _ _ ih => exact ih hi
 | miss _ _ _ _ _ ih => exact ih hi
 | @hit k j o o' t t' a h1 h2 h3 h4 _ ih =>
  obtain ⟨ol, tl, rg, tk, inj⟩ := hi
  obtain ⟨g1, g2, g3, g4, g5, g6⟩ := h4
  have hfr : ∀ i (h : i < o.length), o[i] ≠ (j : Int) := fun i h e => by
   have := tk i h j g2 e
   rw [g4] at this; cases this
  refine ih ⟨by simpa using ol, by simpa using tl, rg.set k (by omega), fun i hi l hl he => ?_, fun i i' hi hi' h0 he => ?_⟩
  ·simp only [List.length_set] at hi hl
   rw [List.getElem_set]
   split
   ·rfl
   ·rename_i hne
    rw [List.getElem_set] at he
    split at he
    ·exact absurd (by omega : j = l) hne
    ·exact tk i hi l hl he
  ·simp only [List.length_set] at hi hi'
   rw [List.getElem_set] at h0 he
   rw [List.getElem_set] at he
   split at he
   ·rename_i e1
    split at he
    ·omega
    ·exact absurd he.symm (hfr i' hi')
   ·rename_i e1
    rw [if_neg e1] at h0
    split at he
    ·exact absurd he (hfr i hi)
    ·exact inj i i' hi hi' h0 he
theorem FolP.inv {C : List (List RT7)} {A : List RT0} {L : List Int} (h : FolP C A L) : L.length = C.length /\ Rg A.length L /\ ∀ i i' (h : i < L.length) (h' : i' < L.length), 0 <= L[i] -> L[i] = L[i'] -> i = i' := by
 obtain ⟨L1, t1, t2, h1, h2⟩ := h
 have h3 := h2.inv C.length (h1.inv C.length ⟨by simp, by simp, fun x hx => by rw [(List.mem_replicate.1 hx).2]; omega, fun i h j hj e => by
  simp at e, fun i i' h h' h0 => by simp at h0⟩)
 exact ⟨h3.ol, h3.rg, h3.inj⟩
theorem zoR (A : List RT0) (t : Int) : ∀ (C : List (List RT7)) (L : List Int) (k : Nat), (zew A t k C L).length <= C.length
 | [], _, _ => Nat.zero_le _
 | x :: C, [], _ => Nat.zero_le _
 | x :: C, l :: L, k => by
  have := zoR A t C L (k + 1)
  simp only [zew]
  split
  ·split <;> simp <;> omega
  ·simp; omega
noncomputable def zC6 (C : List (List RT7)) (A : List RT0) (L : List Int) (t : Int) : List Int := zew A t 0 C L ++ (List.range' C.length (news t A (tkF (List.replicate A.length false) L)).length).map fun x : Nat => (x : Int)
theorem zhn {T t : Int} {m e : Nat} {C : List (List RT7)} (hC : CG T m e C) {A : List RT0} {M : Nat} (hM : M <= 5) (hA : Evs 0 M A) (he : e <= 63) (hm : m < 100) (hT : T <= t) (hT0 : 0 <= T) (ht : t <= 18014398509481984) : ∃ L, zst 600 (zP C, A.map zB) = some (zA L) /\ FolP C A L /\ zh8 600 (zP C, A.map zB, t) = some (zP (zbJ C A L t), zA (zC6 C A L t), 0) /\ CG t (m + 1) (e + A.length) (zbJ C A L t) := by
 have hle := hC.le
 have hAl := zcT hA
 have hg : ∀ a ∈ A, EvG a := fun a ha => (hA.evn hM a ha).g
 have hV := zxo (by omega) (by omega) (by omega) hC
 have hE := zaw hM hA
 have hTm := zrI (by omega) (by omega) hC hT (by omega) ht hT0
 obtain ⟨cs, q1, q2⟩ := zzz (by omega) (by omega) hC
 obtain ⟨L, f1, f2, f3⟩ := ztp he (by omega) hC A (by omega) (fun a ha => (hg a ha).pk)
 have hrg := f3.inv.2.1
 refine ⟨L, f1, f3, ?_, hC.pub hT (by omega) hg f2⟩
 obtain ⟨cs', j', p1, p2⟩ := znQ hC (by omega) hm A hg L f2 hrg [] (t := t) C.length 0 600 [] [] cs (List.replicate A.length false) 0 (by omega) (by omega) (by omega) (by simp) rfl (by simp) (by simpa using q2)
 have hz := zdy f2 A t
 have hch := zoR A t C L 0
 simp only [List.drop_zero, List.nil_append] at p1 p2
 replace p1 : (zY 600).L 600 ([], A.map zB, zA L, t, A.length, (C.length : Int), 0, [], C.length, cs, bc (List.replicate A.length false), 0, C.length) = _ := p1
 have s1 := zim A hg (by omega) (tkF (List.replicate A.length false) L) (by rw [zfw]; simp) [] (t := t) A.length 0 600 (zew A t 0 C L) (List.zipWith (zbo A t) C L) (by omega) (by omega) (by rw [hz]; omega) (by rw [hz]; omega)
 simp only [List.drop_zero, hz] at s1
 replace s1 : (ZA 600).L 600 (zA (zew A t 0 C L), A.map zB, t, A.length, (A.length : Int), 0, [], C.length, bc (tkF (List.replicate A.length false) L), zah (List.zipWith (zbo A t) C L)) = _ := s1
 have hpl : (List.zipWith (zbo A t) C L ++ news t A (tkF (List.replicate A.length false) L)).length <= 500 := by
  have := zik t A (tkF (List.replicate A.length false) L)
  rw [List.length_append, hz]; omega
 obtain ⟨D, hD⟩ : ∃ D, D = List.zipWith (zbo A t) C L ++ news t A (tkF (List.replicate A.length false) L) := ⟨_, rfl⟩
 rw [<- hD] at s1 hpl
 have n7 : decide (((D.length : Nat) : Int) > 500) = false := dF (by omega)
 have n8 : D.length * 1 <= (zah D).length := by rw [zaM]; omega
 have n9 : ((0 : Int) != 0) = false := by decide
 have c1 : (0 <= (A.length : Int) /\ (A.length : Int) <= (A.length : Int) /\ (A.length : Int).toNat * 1 <= zh) := by unfold zh; omega
 simp only [zh8, FSpec.d, zd8, hV, hE, hTm, Bool.not_true, n9, q1, List.length_map]
 rw [if_pos c1]
 simp only [f1, q2.dJ, q2.dF, jT, List.length_map, f2, zv1, zV, Int.toNat_natCast, zol, p1, zpJ, p2.d0, s1, n7]
 rw [if_pos n8, zen]
 rw [hD]
 rfl
end Go.Proofs.YthdgnfcbehcplaaDoor
end
section
namespace Go.Proofs.YthdgnfcbehcplaaDoor
theorem zdb {A : List RT0} {t : Int} {u : RT7} {k : Int} (h : Z7 (kdV u) = false) : Jb A t u k = none := by
 unfold Jb
 rw [if_neg (by rw [h]; decide)]
theorem zuk {C : List (List RT7)} {A : List RT0} {L : List Int} {t : Int} (hL : L.length = C.length) : C.length <= (zbJ C A L t).length := by
 unfold zbJ
 rw [List.length_append, zdy hL]
 omega
theorem zso {C : List (List RT7)} {A : List RT0} {L : List Int} {t : Int} (hL : L.length = C.length) (k : Nat) (h : k < C.length) (h' : k < (zbJ C A L t).length) : (zbJ C A L t)[k] = zbo A t C[k] (L[k]'(by omega)) := by
 refine (zzF (List.zipWith (zbo A t) C L) _ k (by rw [zdy hL]; exact h) h').trans ?_
 rw [List.getElem_zipWith]
end Go.Proofs.YthdgnfcbehcplaaDoor
end
section
namespace Go.Proofs.YthdgnfcbehcplaaDoor
def gi (o : List Int) (i : Nat) : Int := o.getD i (-1)
def gb (t : List Bool) (i : Nat) : Bool := t.getD i false
theorem Jl {o : List Int} {i : Nat} (h : i < o.length) : gi o i = o[i] := by simp [gi, List.getD_eq_getElem?_getD, h]
theorem ze1 {o : List Bool} {i : Nat} (h : i < o.length) : gb o i = o[i] := by simp [gb, List.getD_eq_getElem?_getD, h]
theorem zAm {o : List Int} {i : Nat} (h : o.length <= i) : gi o i = -1 := by simp [gi, List.getD_eq_getElem?_getD, h]
theorem JY {o : List Int} {k : Nat} (h : k < o.length) (x : Int) (i : Nat) : gi (o.set k x) i = if i = k then x else gi o i := by
 simp only [gi, List.getD_eq_getElem?_getD, List.getElem?_set]
 by_cases e : k = i
 ·subst e; simp [h]
 ·rw [if_neg e, if_neg (fun h => e h.symm)]
theorem zg3 {o : List Bool} {k : Nat} (h : k < o.length) (x : Bool) (i : Nat) : gb (o.set k x) i = if i = k then x else gb o i := by
 simp only [gb, List.getD_eq_getElem?_getD, List.getElem?_set]
 by_cases e : k = i
 ·subst e; simp [h]
 ·rw [if_neg e, if_neg (fun h => e h.symm)]
theorem zvt (n i : Nat) : gi (List.replicate n (-1)) i = -1 := by
 simp only [gi, List.getD_eq_getElem?_getD, List.getElem?_replicate]
 split <;> rfl
theorem zvk (n i : Nat) : gb (List.replicate n false) i = false := by
 simp only [gb, List.getD_eq_getElem?_getD, List.getElem?_replicate]
 split <;> rfl
def evI (C : List (List RT7)) (i : Nat) : Option RT0 := (C[i]?).bind laE
theorem zeB {C : List (List RT7)} {i : Nat} (h : i < C.length) : evI C i = laE C[i] := by simp [evI, h]
def NmI (C : List (List RT7)) (i : Nat) (nm : RT1) : Prop := ∃ a, evI C i = some a /\ nmE a = nm
def Fst (C : List (List RT7)) (i : Nat) (nm : RT1) : Prop := NmI C i nm /\ ∀ i', i' < i -> ¬ NmI C i' nm
def Dis (A : List RT0) : Prop := A.Pairwise fun a b => nmE a ≠ nmE b
theorem Dis.eq {A : List RT0} (h : Dis A) {i j : Nat} (hi : i < A.length) (hj : j < A.length) (e : nmE A[i] = nmE A[j]) : i = j := by
 have hp := List.pairwise_iff_getElem.1 h
 rcases Nat.lt_trichotomy i j with h1 | h1 | h1
 ·exact absurd e (hp i j hi hj h1)
 ·exact h1
 ·exact absurd e.symm (hp j i hj hi h1)
structure I1 (C : List (List RT7)) (A : List RT0) (k : Nat) (o : List Int) (t : List Bool) : Prop where
 ol : o.length = C.length
 tl : t.length = A.length
 rg : ∀ i, -1 <= gi o i /\ gi o i < A.length
 hi : ∀ i, k <= i -> gi o i = -1
 eq : ∀ i, i < k -> ∀ j (hj : j < A.length), gi o i = (j : Int) ↔ Fst C i (nmE A[j])
 tk : ∀ j (hj : j < A.length), gb t j = true ↔ ∃ i, i < k /\ NmI C i (nmE A[j])
theorem Pass.one {C : List (List RT7)} {A : List RT0} (hd : Dis A) {k : Nat} {o o' : List Int} {t t' : List Bool} (h : Pass SameN C A k o t o' t') : I1 C A k o t -> ∃ n, C.length <= n /\ I1 C A n o' t' := by
 induction h with
 | @done k o t h => exact fun hI => ⟨k, h, hI⟩
 | @skip k o o' t t' h1 h2 _ ih =>
  intro hI
  exfalso
  have := hI.hi k (Nat.le_refl _)
  rw [Jl (by rw [hI.ol]; exact h1)] at this
  have := h2 (by rw [hI.ol]; exact h1)
  omega
 | @hit k j o o' t t' a h1 h2 h3 h4 _ ih =>
  intro hI
  obtain ⟨g1, g2, g3, g4, g5, g6⟩ := h4
  have hev : evI C k = some a := by rw [zeB h1, h3]
  have hn : ∀ nm, NmI C k nm ↔ nmE a = nm := fun nm => by
   unfold NmI
   rw [hev]
   exact ⟨fun ⟨b, e, h⟩ => by rw [Option.some.inj e]; exact h, fun h => ⟨a, rfl, h⟩⟩
  have g5' : nmE a = nmE A[j] := g5
  have hko : k < o.length := by rw [hI.ol]; exact h1
  have hjf : ¬ ∃ i, i < k /\ NmI C i (nmE A[j]) := fun hc => by
   have := (hI.tk j g1).2 hc
   rw [ze1 g2, g4] at this; cases this
  refine ih ⟨by simpa using hI.ol, by simpa using hI.tl, fun i => ?_, fun i hi => ?_, fun i hi j' hj' => ?_, fun j' hj' => ?_⟩
  ·rw [JY hko]
   split
   ·omega
   ·exact hI.rg i
  ·rw [JY hko, if_neg (by omega)]
   exact hI.hi i (by omega)
  ·rw [JY hko]
   by_cases e : i = k
   ·subst e
    rw [if_pos rfl]
    constructor
    ·intro e
     obtain rfl : j = j' := by omega
     exact ⟨(hn _).2 g5', fun i' hi' h => hjf ⟨i', hi', h⟩⟩
    ·intro ⟨e, _⟩
     rw [hn, g5'] at e
     rw [hd.eq g1 hj' e]
   ·rw [if_neg e]
    exact hI.eq i (by omega) j' hj'
  ·rw [zg3 g2]
   by_cases e : j' = j
   ·subst e
    rw [if_pos rfl]
    exact ⟨fun _ => ⟨k, by omega, (hn _).2 g5'⟩, fun _ => rfl⟩
   ·rw [if_neg e, hI.tk j' hj']
    constructor
    ·rintro ⟨i, h, h'⟩; exact ⟨i, by omega, h'⟩
    ·rintro ⟨i, h, h'⟩
     by_cases e2 : i = k
     ·subst e2
      rw [hn, g5'] at h'
      exact absurd (hd.eq g1 hj' h').symm e
     ·exact ⟨i, by omega, h'⟩
 | @miss k o o' t t' a h1 h2 h3 h4 _ ih =>
  intro hI
  have hev : evI C k = some a := by rw [zeB h1, h3]
  have hn : ∀ nm, NmI C k nm ↔ nmE a = nm := fun nm => by
   unfold NmI
   rw [hev]
   exact ⟨fun ⟨b, e, h⟩ => by rw [Option.some.inj e]; exact h, fun h => ⟨a, rfl, h⟩⟩
  have hm : ∀ j (hj : j < A.length), NmI C k (nmE A[j]) -> ∃ i, i < k /\ NmI C i (nmE A[j]) := fun j hj h => by
   rw [<- hI.tk j hj]
   have hjt : j < t.length := by rw [hI.tl]; exact hj
   rw [ze1 hjt]
   cases hb : t[j] with
   | true => rfl
   | false => exact absurd ((hn _).1 h) (h4 j hj hjt (Nat.zero_le _) hb)
  refine ih ⟨hI.ol, hI.tl, hI.rg, fun i hi => hI.hi i (by omega), fun i hi j hj => ?_, fun j hj => ?_⟩
  ·by_cases e : i = k
   ·subst e
    rw [hI.hi i (Nat.le_refl _)]
    constructor
    ·intro e; omega
    ·rintro ⟨e1, e2⟩
     obtain ⟨i', h1, h2⟩ := hm j hj e1
     exact absurd h2 (e2 i' h1)
   ·exact hI.eq i (by omega) j hj
  ·rw [hI.tk j hj]
   constructor
   ·rintro ⟨i, h, h'⟩; exact ⟨i, by omega, h'⟩
   ·rintro ⟨i, h, h'⟩
    by_cases e : i = k
    ·subst e; exact hm j hj h'
    ·exact ⟨i, by omega, h'⟩
theorem Pass.one' {C : List (List RT7)} {A : List RT0} (hd : Dis A) {o : List Int} {t : List Bool} (h : Pass SameN C A 0 (List.replicate C.length (-1)) (List.replicate A.length false) o t) : o.length = C.length /\ t.length = A.length /\ (∀ i, -1 <= gi o i /\ gi o i < A.length) /\ (∀ i j (hj : j < A.length), i < C.length -> (gi o i = (j : Int) ↔ Fst C i (nmE A[j]))) /\ (∀ j (hj : j < A.length), gb t j = true ↔ ∃ i, i < C.length /\ NmI C i (nmE A[j])) := by
 obtain ⟨n, h1, h2⟩ := h.one hd ⟨by simp, by simp, fun i => by rw [zvt]; omega, fun i _ => zvt _ _, fun i hi => by omega, fun j hj => by
  rw [zvk]
  constructor
  ·intro h; cases h
  ·rintro ⟨i, h, _⟩; omega⟩
 refine ⟨h2.ol, h2.tl, h2.rg, fun i j hj hi => h2.eq i (by omega) j hj, fun j hj => (h2.tk j hj).trans ⟨fun ⟨i, h, h'⟩ => ⟨i, ?_, h'⟩, fun ⟨i, h, h'⟩ => ⟨i, by omega, h'⟩⟩⟩
 obtain ⟨a, ha, _⟩ := h'
 by_cases hi : i < C.length
 ·exact hi
 ·simp [evI, show C[i]? = none from List.getElem?_eq_none (by omega)] at ha
theorem Pass.keep {M : RT0 -> RT0 -> Prop} {C : List (List RT7)} {A : List RT0} {k : Nat} {o o' : List Int} {t t' : List Bool} (h : Pass M C A k o t o' t') : o.length = C.length -> (∀ i, i < k -> gi o' i = gi o i) /\ (∀ i, 0 <= gi o i -> gi o' i = gi o i) /\ o'.length = C.length /\ t'.length = t.length := by
 induction h with
 | done _ => exact fun h => ⟨fun _ _ => rfl, fun _ _ => rfl, h, rfl⟩
 | skip _ _ _ ih => exact fun h => ⟨fun i hi => (ih h).1 i (by omega), (ih h).2⟩
 | miss _ _ _ _ _ ih => exact fun h => ⟨fun i hi => (ih h).1 i (by omega), (ih h).2⟩
 | @hit k j o o' t t' a h1 h2 h3 h4 _ ih =>
  intro h
  have hko : k < o.length := by rw [h]; exact h1
  obtain ⟨q1, q2, q3, q4⟩ := ih (by simpa using h)
  refine ⟨fun i hi => ?_, fun i hi => ?_, q3, by rw [q4]; simp⟩
  ·rw [q1 i (by omega), JY hko, if_neg (by omega)]
  ·by_cases e : i = k
   ·subst e
    have := h2 hko
    rw [Jl hko] at hi
    omega
   ·rw [q2 i (by rw [JY hko, if_neg e]; exact hi), JY hko, if_neg e]
end Go.Proofs.YthdgnfcbehcplaaDoor
end
section
namespace Go.Proofs.YthdgnfcbehcplaaDoor
def opn (C : List (List RT7)) (i : Nat) : Prop := ∃ x u, C[i]? = some x /\ x.getLast? = some u /\ Z7 (kdV u) = true
theorem SameN.nm {a e : RT0} : SameN a e ↔ nmE a = nmE e := Iff.rfl
structure R2 (C D : List (List RT7)) (A : List RT0) (L o1 : List Int) (N : Nat -> Int) (U : Nat -> Prop) (k : Nat) (t : List Bool) (o' : List Int) (t' : List Bool) : Prop where
 ol : o'.length = D.length
 tl : t.length = A.length
 tl' : t'.length = A.length
 lo : ∀ i, i < C.length -> i < k -> gi o' i = gi L i
 mi : ∀ i, i < C.length -> k <= i -> (opn C i \/ 0 <= gi o1 i -> gi o' i = gi L i) /\ (¬ (opn C i \/ 0 <= gi o1 i) -> gi o' i = -1)
 up : ∀ i, C.length <= i -> i < D.length -> gi o' i = N i /\ 0 <= N i
 tk : ∀ j, j < A.length -> (gb t' j = true ↔ gb t j = true \/ (∃ i, i < C.length /\ gi L i = (j : Int) /\ opn C i) \/ U j)
theorem zyr {M : RT0 -> RT0 -> Prop} {D : List (List RT7)} {A : List RT0} {k : Nat} {o o' : List Int} {t t' : List Bool} (h : Pass M D A k o t o' t') : o.length = D.length -> (∀ i, k <= i -> i < D.length -> 0 <= gi o i) -> o' = o := by
 induction h with
 | done _ => exact fun _ _ => rfl
 | skip _ _ _ ih => exact fun h1 h2 => ih h1 fun i hi hl => h2 i (by omega) hl
 | @hit k j o o' t t' a h h3 _ _ _ _ =>
  intro h1 h2
  have hko : k < o.length := by rw [h1]; exact h
  have := h2 k (Nat.le_refl _) h
  rw [Jl hko] at this
  have := h3 hko
  omega
 | @miss k o o' t t' a h h3 _ _ _ _ =>
  intro h1 h2
  have hko : k < o.length := by rw [h1]; exact h
  have := h2 k (Nat.le_refl _) h
  rw [Jl hko] at this
  have := h3 hko
  omega
theorem sim {M : RT0 -> RT0 -> Prop} {C D : List (List RT7)} {A : List RT0} {L o1 : List Int} {N : Nat -> Int} {U : Nat -> Prop} (hCD : C.length <= D.length)
  (hinj : ∀ i i', i < C.length -> i' < C.length -> 0 <= gi L i -> gi L i = gi L i' -> i = i')
  (hrg : ∀ i, -1 <= gi L i)
  (hU : ∀ j, U j -> ∀ i, i < C.length -> gi L i ≠ (j : Int))
  (hev : ∀ i, i < C.length -> ¬ (opn C i /\ 0 <= gi L i) -> evI D i = evI C i)
  {k : Nat} {o : List Int} {t t2 : List Bool} (h : Pass M C A k o t L t2) : o.length = C.length -> (∀ i, k <= i -> gi o i = gi o1 i) -> ∀ (o' o2 : List Int) (t' t3 : List Bool), R2 C D A L o1 N U k t o' t' -> Pass M D A k o' t' o2 t3 -> o2.length = D.length /\ (∀ i, i < C.length -> gi o2 i = gi L i) /\ (∀ i, C.length <= i -> i < D.length -> gi o2 i = N i) := by
 generalize hL : L = L' at h
 induction h with
 | @done k o t h =>
  subst hL
  intro ho ho1 o' o2 t' t3 hR hP
  have : o2 = o' := zyr hP hR.ol fun i hi hl => by rw [(hR.up i (by omega) hl).1]; exact (hR.up i (by omega) hl).2
  subst this
  exact ⟨hR.ol, fun i hi => hR.lo i hi (by omega), fun i hi hl => (hR.up i hi hl).1⟩
 | @skip k o oL t tL h1 h2 hp ih =>
  intro ho ho1 o' o2 t' t3 hR hP
  subst hL
  have hko : k < o.length := by rw [ho]; exact h1
  have h0 : 0 <= gi o k := by rw [Jl hko]; exact h2 hko
  have hL2 : gi L k = gi o k := (hp.keep ho).2.1 k h0
  have hk' : gi o' k = gi L k := (hR.mi k h1 (Nat.le_refl _)).1 (.inr (by rw [<- ho1 k (Nat.le_refl _)]; exact h0))
  have hk2 : k < o'.length := by rw [hR.ol]; omega
  have hR' : R2 C D A L o1 N U (k + 1) t o' t' := ⟨hR.ol, hR.tl, hR.tl', fun i hi hk => by
   by_cases e : i = k
   ·subst e; exact hk'
   ·exact hR.lo i hi (by omega), fun i hi hk => hR.mi i hi (by omega), hR.up, hR.tk⟩
  have hfin : ∀ {oo tt}, Pass M D A (k + 1) o' t' oo tt -> oo.length = D.length /\ (∀ i, i < C.length -> gi oo i = gi L i) /\ (∀ i, C.length <= i -> i < D.length -> gi oo i = N i) := fun hP' => ih rfl ho (fun i hi => ho1 i (by omega)) o' _ t' _ hR' hP'
  have hneg : ¬ gi o' k < 0 := by rw [hk', hL2]; omega
  cases hP with
  | done h => omega
  | skip _ _ hP' => exact hfin hP'
  | hit _ h3 => exact absurd (by rw [Jl hk2]; exact h3 hk2) hneg
  | miss _ h3 => exact absurd (by rw [Jl hk2]; exact h3 hk2) hneg
 | @hit k j o oL t tL a h1 h2 h3 h4 hp ih =>
  intro ho ho1 o' o2 t' t3 hR hP
  subst hL
  obtain ⟨g1, g2, g3, g4, g5, g6⟩ := h4
  have hko : k < o.length := by rw [ho]; exact h1
  have hlt : gi o k < 0 := by rw [Jl hko]; exact h2 hko
  have ho2 : (o.set k (j : Int)).length = C.length := by simpa using ho
  have hL2 : gi L k = (j : Int) := by
   have := (hp.keep ho2).1 k (by omega)
   rw [JY hko, if_pos rfl] at this
   exact this
  have hk2 : k < o'.length := by rw [hR.ol]; omega
  have ho1k : ¬ 0 <= gi o1 k := by rw [<- ho1 k (Nat.le_refl _)]; omega
  have hjt : gb t j = false := by rw [ze1 g2]; exact g4
  have hoi : ∀ i, k + 1 <= i -> gi (o.set k (j : Int)) i = gi o1 i := fun i hi => by
   rw [JY hko, if_neg (by omega)]; exact ho1 i (by omega)
  by_cases hop : opn C k
  ·have hk' : gi o' k = (j : Int) := by rw [(hR.mi k h1 (Nat.le_refl _)).1 (.inl hop)]; exact hL2
   have hR' : R2 C D A L o1 N U (k + 1) (t.set j true) o' t' := ⟨hR.ol, by simpa using hR.tl, hR.tl', fun i hi hk => by
    by_cases e : i = k
    ·subst e; rw [hk', hL2]
    ·exact hR.lo i hi (by omega), fun i hi hk => hR.mi i hi (by omega), hR.up, fun j' hj' => by
    rw [hR.tk j' hj', zg3 g2]
    by_cases e : j' = j
    ·subst e
     rw [if_pos rfl]
     exact ⟨fun _ => .inl rfl, fun _ => .inr (.inl ⟨k, h1, hL2, hop⟩)⟩
    ·rw [if_neg e]⟩
   have hneg : ¬ gi o' k < 0 := by rw [hk']; omega
   cases hP with
   | done h => omega
   | skip _ _ hP' => exact ih rfl ho2 hoi o' _ t' _ hR' hP'
   | hit _ h3 => exact absurd (by rw [Jl hk2]; exact h3 hk2) hneg
   | miss _ h3 => exact absurd (by rw [Jl hk2]; exact h3 hk2) hneg
  ·have hk' : gi o' k = -1 := (hR.mi k h1 (Nat.le_refl _)).2 (fun h => h.elim hop ho1k)
   have hev' : evI D k = some a := by rw [hev k h1 (fun h => hop h.1), zeB h1, h3]
   have hkD : k < D.length := by omega
   have hlaD : laE D[k] = some a := by rw [<- zeB hkD]; exact hev'
   have hjt' : gb t' j = false := by
    cases hb : gb t' j with
    | false => rfl
    | true =>
     rcases (hR.tk j g1).1 hb with h | ⟨i, hi, hi2, hi3⟩ | h
     ·rw [hjt] at h; cases h
     ·have : i = k := hinj i k hi h1 (by rw [hi2]; omega) (by rw [hi2, hL2])
      subst this; exact absurd hi3 hop
     ·exact absurd hL2 (hU j h k h1)
   have hj't : j < t'.length := by rw [hR.tl']; exact g1
   have hmono : ∀ i, i < A.length -> gb t' i = false -> gb t i = false := fun i hi hb => by
    cases hc : gb t i with
    | false => rfl
    | true =>
     have := (hR.tk i hi).2 (.inl hc)
     rw [hb] at this; cases this
   cases hP with
   | done h => omega
   | skip _ h3' => exact absurd (h3' hk2) (by rw [<- Jl hk2, hk']; omega)
   | @miss _ _ _ _ _ a' _ _ h4' h5' =>
    rw [hlaD] at h4'
    obtain rfl := Option.some.inj h4'
    exact absurd g5 (h5' j g1 hj't (Nat.zero_le _) (by rw [<- ze1 hj't]; exact hjt'))
   | @hit _ j2 _ _ _ _ a' _ _ h4' h5' hP' =>
    rw [hlaD] at h4'
    obtain rfl := Option.some.inj h4'
    obtain ⟨e1, e2, _, e4, e5, e6⟩ := h5'
    have e4' : gb t j2 = false := hmono j2 e1 (by rw [ze1 e2]; exact e4)
    have hj2t : j2 < t.length := by rw [hR.tl]; exact e1
    have hjj : j2 = j := by
     rcases Nat.lt_trichotomy j2 j with h | h | h
     ·exact absurd e5 (g6 j2 e1 hj2t (Nat.zero_le _) h (by rw [<- ze1 hj2t]; exact e4'))
     ·exact h
     ·exact absurd g5 (e6 j g1 hj't (Nat.zero_le _) h (by rw [<- ze1 hj't]; exact hjt'))
    subst hjj
    refine ih rfl ho2 hoi _ _ _ _ ⟨by simpa using hR.ol, by simpa using hR.tl, by simpa using hR.tl', fun i hi hk => ?_, fun i hi hk => ?_, fun i hi hl => ?_, fun j' hj' => ?_⟩ hP'
    ·rw [JY hk2]
     split
     ·rename_i e; rw [e, hL2]
     ·exact hR.lo i hi (by omega)
    ·rw [JY hk2, if_neg (by omega)]
     exact hR.mi i hi (by omega)
    ·rw [JY hk2, if_neg (by omega)]
     exact hR.up i hi hl
    ·rw [zg3 hj't, zg3 g2]
     by_cases e : j' = j2
     ·rw [if_pos e, if_pos e]; simp
     ·rw [if_neg e, if_neg e]; exact hR.tk j' hj'
 | @miss k o oL t tL a h1 h2 h3 h4 hp ih =>
  intro ho ho1 o' o2 t' t3 hR hP
  subst hL
  have hko : k < o.length := by rw [ho]; exact h1
  have hlt : gi o k < 0 := by rw [Jl hko]; exact h2 hko
  have hL2 : gi L k = gi o k := (hp.keep ho).1 k (by omega)
  have hk2 : k < o'.length := by rw [hR.ol]; omega
  have ho1k : ¬ 0 <= gi o1 k := by rw [<- ho1 k (Nat.le_refl _)]; omega
  have hkD : k < D.length := by omega
  have hlaD : laE D[k] = some a := by rw [<- zeB hkD, hev k h1 (fun h => by have := h.2; omega), zeB h1, h3]
  have hneg : gi o' k < 0 := by
   by_cases hop : opn C k
   ·rw [(hR.mi k h1 (Nat.le_refl _)).1 (.inl hop), hL2]; exact hlt
   ·rw [(hR.mi k h1 (Nat.le_refl _)).2 (fun h => h.elim hop ho1k)]; omega
  have hmono : ∀ i, i < A.length -> gb t' i = false -> gb t i = false := fun i hi hb => by
   cases hc : gb t i with
   | false => rfl
   | true =>
    have := (hR.tk i hi).2 (.inl hc)
    rw [hb] at this; cases this
  cases hP with
  | done h => omega
  | skip _ h3' => exact absurd (h3' hk2) (by rw [<- Jl hk2]; omega)
  | @hit _ j2 _ _ _ _ a' _ _ h4' h5' hP' =>
   rw [hlaD] at h4'
   obtain rfl := Option.some.inj h4'
   obtain ⟨e1, e2, _, e4, e5, e6⟩ := h5'
   have hj2t : j2 < t.length := by rw [hR.tl]; exact e1
   exact absurd e5 (h4 j2 e1 hj2t (Nat.zero_le _) (by rw [<- ze1 hj2t]; exact hmono j2 e1 (by rw [ze1 e2]; exact e4)))
  | miss _ _ _ _ hP' =>
   refine ih rfl ho (fun i hi => ho1 i (by omega)) o' _ t' _ ⟨hR.ol, hR.tl, hR.tl', fun i hi hk => ?_, fun i hi hk => hR.mi i hi (by omega), hR.up, hR.tk⟩ hP'
   by_cases e : i = k
   ·subst e
    by_cases hop : opn C i
    ·exact (hR.mi i h1 (Nat.le_refl _)).1 (.inl hop)
    ·rw [(hR.mi i h1 (Nat.le_refl _)).2 (fun h => h.elim hop ho1k)]
     have := hrg i
     omega
   ·exact hR.lo i hi (by omega)
end Go.Proofs.YthdgnfcbehcplaaDoor
end
section
namespace Go.Proofs.YthdgnfcbehcplaaDoor
theorem zjZ {A : List RT0} {t : Int} {u : RT7} {k : Int} : Jb A t ((Jb A t u k).getD u) k = none := by
 by_cases ho : Z7 (kdV u) = true
 ·by_cases hk : 0 <= k /\ k < A.length
  ·obtain ⟨z, rfl⟩ : ∃ z : Nat, k = (z : Int) := ⟨k.toNat, by omega⟩
   have hz : z < A.length := by omega
   by_cases hs : JZ (kdV u) = true /\ evV u = A[z]
   ·rw [zba ho hz hs, Option.getD_none, zba ho hz hs]
   ·rw [zeV ho hz hs, Option.getD_some]
    exact zba (u := zab t A[z]) rfl hz ⟨rfl, rfl⟩
  ·by_cases h2 : kdV u = 2
   ·have e : Jb A t u k = none := by
     unfold Jb
     rw [if_pos ho, dif_neg hk, if_pos h2]
    rw [e, Option.getD_none, e]
   ·have e : Jb A t u k = some (zlu t (evV u)) := by
     unfold Jb
     rw [if_pos ho, dif_neg hk, if_neg h2]
    rw [e, Option.getD_some]
    have e2 : Z7 (kdV (zlu t (evV u))) = true := rfl
    unfold Jb
    rw [if_pos e2, dif_neg hk]
    exact if_pos rfl
 ·have e : Jb A t u k = none := zdb (by simpa using ho)
  rw [e, Option.getD_none, e]
theorem zlW {A : List RT0} {t : Int} {x : List RT7} {k : Int} {u : RT7} (h : x.getLast? = some u) : (zbo A t x k).getLast? = some ((Jb A t u k).getD u) := by
 unfold zbo
 rw [h]
 dsimp only
 cases hv : Jb A t u k with
 | none => simpa using h
 | some v => simp
theorem zo6 {A : List RT0} {t : Int} {u : RT7} {k : Int} : evV ((Jb A t u k).getD u) = if h : Z7 (kdV u) = true /\ 0 <= k /\ k < A.length then A[k.toNat] else evV u := by
 by_cases ho : Z7 (kdV u) = true
 ·by_cases hk : 0 <= k /\ k < A.length
  ·obtain ⟨z, rfl⟩ : ∃ z : Nat, k = (z : Int) := ⟨k.toNat, by omega⟩
   have hz : z < A.length := by omega
   rw [dif_pos ⟨ho, hk⟩]
   simp only [Int.toNat_natCast]
   by_cases hs : JZ (kdV u) = true /\ evV u = A[z]
   ·rw [zba ho hz hs]; exact hs.2
   ·rw [zeV ho hz hs]; rfl
  ·rw [dif_neg (fun h => hk h.2)]
   by_cases h2 : kdV u = 2
   ·have e : Jb A t u k = none := by
     unfold Jb
     rw [if_pos ho, dif_neg hk, if_pos h2]
    rw [e]; rfl
   ·have e : Jb A t u k = some (zlu t (evV u)) := by
     unfold Jb
     rw [if_pos ho, dif_neg hk, if_neg h2]
    rw [e]; rfl
 ·rw [dif_neg (fun h => ho h.1), zdb (by simpa using ho)]; rfl
theorem zfq : ∀ (L : List Int) (t : List Bool) (j : Nat), j < t.length -> (gb (tkF t L) j = true ↔ gb t j = true \/ (j : Int) ∈ L)
 | [], t, j, _ => by simp [tkF]
 | x :: L, t, j, hj => by
  show gb (tkF (if 0 <= x then t.set x.toNat true else t) L) j = true ↔ _
  by_cases hx : 0 <= x
  ·rw [if_pos hx, zfq L _ j (by simpa using hj), List.mem_cons]
   have : gb (t.set x.toNat true) j = true ↔ gb t j = true \/ (j : Int) = x := by
    by_cases hxl : x.toNat < t.length
    ·rw [zg3 hxl]
     by_cases e : j = x.toNat
     ·rw [if_pos e]; simp; omega
     ·rw [if_neg e]
      exact ⟨.inl, fun h => h.elim id (fun h => absurd (by omega) e)⟩
    ·rw [List.set_eq_of_length_le (by omega)]
     exact ⟨.inl, fun h => h.elim id (fun h => by omega)⟩
   rw [this]
   constructor
   ·rintro ((h | h) | h)
    ·exact .inl h
    ·exact .inr (.inl h)
    ·exact .inr (.inr h)
   ·rintro (h | h | h)
    ·exact .inl (.inl h)
    ·exact .inl (.inr h)
    ·exact .inr h
  ·rw [if_neg hx, zfq L _ j hj, List.mem_cons]
   constructor
   ·rintro (h | h)
    ·exact .inl h
    ·exact .inr (.inr h)
   ·rintro (h | h | h)
    ·exact .inl h
    ·omega
    ·exact .inr h
theorem zfH (t : Int) : ∀ (A : List RT0) (T : List Bool), T.length = A.length -> (∀ r, r < (news t A T).length -> ∃ (j : Nat) (h : j < A.length), gb T j = false /\ (news t A T)[r]? = some [zab t A[j]]) /\ (∀ j (h : j < A.length), gb T j = false -> ∃ r, r < (news t A T).length /\ (news t A T)[r]? = some [zab t A[j]])
 | [], T, _ => ⟨fun r h => (by cases h), fun j h => (by cases h)⟩
 | a :: A, [], h => by cases h
 | a :: A, b :: T, h => by
  obtain ⟨h1, h2⟩ := zfH t A T (by simpa using h)
  have hg : ∀ j, gb (b :: T) (j + 1) = gb T j := fun j => by simp [gb]
  have h0 : gb (b :: T) 0 = b := rfl
  simp only [news]
  cases b with
  | true =>
   simp only [if_true]
   refine ⟨fun r hr => ?_, fun j hj hb => ?_⟩
   ·obtain ⟨j, hj, e1, e2⟩ := h1 r hr
    exact ⟨j + 1, by simpa using hj, by rw [hg]; exact e1, by simpa using e2⟩
   ·cases j with
    | zero => rw [h0] at hb; cases hb
    | succ j =>
     rw [hg] at hb
     obtain ⟨r, e1, e2⟩ := h2 j (by simpa using hj) hb
     exact ⟨r, e1, by simpa using e2⟩
  | false =>
   simp only [Bool.false_eq_true, if_false]
   refine ⟨fun r hr => ?_, fun j hj hb => ?_⟩
   ·cases r with
    | zero => exact ⟨0, by simp, h0, by simp⟩
    | succ r =>
     obtain ⟨j, hj, e1, e2⟩ := h1 r (by simpa using hr)
     exact ⟨j + 1, by simpa using hj, by rw [hg]; exact e1, by simpa using e2⟩
   ·cases j with
    | zero => exact ⟨0, by simp, by simp⟩
    | succ j =>
     rw [hg] at hb
     obtain ⟨r, e1, e2⟩ := h2 j (by simpa using hj) hb
     exact ⟨r + 1, by simpa using e1, by simpa using e2⟩
theorem zfI {t : Int} : ∀ {A : List RT0} {T : List Bool}, Dis A -> (news t A T).Pairwise fun x y => ∀ a b : RT0, x = [zab t a] -> y = [zab t b] -> nmE a ≠ nmE b
 | [], _, _ => List.Pairwise.nil
 | a :: A, [], _ => List.Pairwise.nil
 | a :: A, b :: T, h => by
  obtain ⟨h1, h2⟩ := List.pairwise_cons.1 h
  simp only [news]
  split
  ·exact zfI h2
  ·refine List.pairwise_cons.2 ⟨fun y hy a' b' ha hb => ?_, zfI h2⟩
   obtain ⟨c, hc, rfl⟩ := zcu hy
   have e1 : a = a' := by have := congrArg (fun l : List RT7 => l.map evV) ha; simpa [zab] using this
   have e2 : c = b' := by have := congrArg (fun l : List RT7 => l.map evV) hb; simpa [zab] using this
   subst e1 e2
   exact h1 c hc
theorem zvp {C : List (List RT7)} {nm : RT1} : ∀ (i : Nat), NmI C i nm -> ∃ i0, i0 <= i /\ Fst C i0 nm := by
 intro i
 induction i using Nat.strongRecOn with
 | ind i ih =>
  intro h
  by_cases hc : ∃ i', i' < i /\ NmI C i' nm
  ·obtain ⟨i', h1, h2⟩ := hc
   obtain ⟨i0, h3, h4⟩ := ih i' h1 h2
   exact ⟨i0, by omega, h4⟩
  ·exact ⟨i, Nat.le_refl _, h, fun i' hi' h' => hc ⟨i', hi', h'⟩⟩
end Go.Proofs.YthdgnfcbehcplaaDoor
end
section
namespace Go.Proofs.YthdgnfcbehcplaaDoor
theorem zpB {L : List Int} {x : Int} : x ∈ L ↔ ∃ i, i < L.length /\ gi L i = x := by
 rw [List.mem_iff_getElem]
 constructor
 ·rintro ⟨i, h, e⟩; exact ⟨i, h, by rw [Jl h]; exact e⟩
 ·rintro ⟨i, h, e⟩; exact ⟨i, h, by rw [<- Jl h]; exact e⟩
structure Pub (C D : List (List RT7)) (A : List RT0) (L : List Int) (t : Int) : Prop where
 le : C.length <= D.length
 old : ∀ i, i < C.length -> ∃ u, (C[i]?).bind List.getLast? = some u /\ (D[i]?).bind List.getLast? = some ((Jb A t u (gi L i)).getD u)
 new : ∀ i, C.length <= i -> i < D.length -> ∃ (j : Nat) (h : j < A.length), (j : Int) ∉ L /\ D[i]? = some [zab t A[j]]
 cov : ∀ j (h : j < A.length), (j : Int) ∉ L -> ∃ i, C.length <= i /\ i < D.length /\ D[i]? = some [zab t A[j]]
 dis : ∀ i i' (a : RT0), C.length <= i -> C.length <= i' -> D[i]? = some [zab t a] -> D[i']? = some [zab t a] -> i = i'
theorem zBp {T t : Int} {m e : Nat} {C : List (List RT7)} (hC : CG T m e C) {A : List RT0} (hd : Dis A) {L : List Int} (hL : L.length = C.length) : Pub C (zbJ C A L t) A L t := by
 have hz := zdy hL A t
 obtain ⟨n1, n2⟩ := zfH t A (tkF (List.replicate A.length false) L) (by rw [zfw]; simp)
 have hn := zfI (t := t) (T := tkF (List.replicate A.length false) L) hd
 have hup : ∀ i, C.length <= i -> (zbJ C A L t)[i]? = (news t A (tkF (List.replicate A.length false) L))[i - C.length]? := fun i hi => by
  unfold zbJ
  rw [List.getElem?_append_right (by rw [hz]; exact hi), hz]
 have hun : ∀ j (h : j < A.length), gb (tkF (List.replicate A.length false) L) j = false ↔ (j : Int) ∉ L := fun j h => by
  have := zfq L (List.replicate A.length false) j (by simpa using h)
  rw [zvk] at this
  constructor
  ·intro h1 h2
   have := this.2 (.inr h2)
   rw [h1] at this; cases this
  ·intro h1
   cases hb : gb (tkF (List.replicate A.length false) L) j with
   | false => rfl
   | true =>
    rcases this.1 hb with h2 | h2
    ·cases h2
    ·exact absurd h2 h1
 have hlen : (zbJ C A L t).length = C.length + (news t A (tkF (List.replicate A.length false) L)).length := by
  unfold zbJ; rw [List.length_append, hz]
 refine ⟨zuk hL, fun i hi => ?_, fun i hi hl => ?_, fun j hj hm => ?_, fun i i' a hi hi' e1 e2 => ?_⟩
 ·have hx := hC.xs i hi
  have hlD : i < (zbJ C A L t).length := by rw [hlen]; omega
  refine ⟨C[i].getLast hx.ne, by rw [List.getElem?_eq_getElem hi]; exact zjo hx.ne, ?_⟩
  rw [List.getElem?_eq_getElem hlD, zso hL i hi hlD]
  show (zbo A t C[i] _).getLast? = _
  rw [zlW (zjo hx.ne), <- Jl (by rw [hL]; exact hi)]
 ·obtain ⟨j, h, h1, h2⟩ := n1 (i - C.length) (by omega)
  exact ⟨j, h, (hun j h).1 h1, by rw [hup i hi]; exact h2⟩
 ·obtain ⟨r, h1, h2⟩ := n2 j hj ((hun j hj).2 hm)
  exact ⟨C.length + r, by omega, by omega, by rw [hup _ (by omega), show C.length + r - C.length = r by omega]; exact h2⟩
 ·rw [hup i hi] at e1
  rw [hup i' hi'] at e2
  obtain ⟨h1, q1⟩ := List.getElem?_eq_some_iff.1 e1
  obtain ⟨h2, q2⟩ := List.getElem?_eq_some_iff.1 e2
  have hp := List.pairwise_iff_getElem.1 hn
  rcases Nat.lt_trichotomy (i - C.length) (i' - C.length) with h | h | h
  ·exact absurd rfl (hp _ _ h1 h2 h a a q1 q2)
  ·omega
  ·exact absurd rfl (hp _ _ h2 h1 h a a q2 q1)
theorem zcv {C : List (List RT7)} {i : Nat} : evI C i = ((C[i]?).bind List.getLast?).map evV := by
 unfold evI
 cases C[i]? <;> rfl
theorem ziv {C : List (List RT7)} {i : Nat} : opn C i ↔ ∃ u, (C[i]?).bind List.getLast? = some u /\ Z7 (kdV u) = true := by
 unfold opn
 constructor
 ·rintro ⟨x, u, h1, h2, h3⟩; exact ⟨u, by rw [h1]; exact h2, h3⟩
 ·rintro ⟨u, h1, h2⟩
  cases hc : C[i]? with
  | none => rw [hc] at h1; cases h1
  | some x => rw [hc] at h1; exact ⟨x, u, rfl, h1, h2⟩
theorem zlJ {C D : List (List RT7)} {A : List RT0} {L L' : List Int} {t : Int} (hd : Dis A) (hP : Pub C D A L t) (hF : FolP C A L) (hF' : FolP D A L') : (∀ i, i < C.length -> gi L' i = gi L i) /\ (∀ i j, C.length <= i -> (h : j < A.length) -> D[i]? = some [zab t A[j]] -> gi L' i = (j : Int)) := by
 obtain ⟨hl, hrg, hinj⟩ := hF.inv
 obtain ⟨L1, t1, t2, p1, p2⟩ := hF
 obtain ⟨M1, s1, s2, q1, q2⟩ := hF'
 obtain ⟨a1, a2, a3, a4, a5⟩ := p1.one' hd
 obtain ⟨b1, b2, b3, b4, b5⟩ := q1.one' hd
 obtain ⟨_, k2, k3, k4⟩ := p2.keep a1
 have hlo : ∀ i, -1 <= gi L i /\ gi L i < A.length := fun i => by
  by_cases h : i < L.length
  ·rw [Jl h]; exact hrg _ (List.getElem_mem _)
  ·rw [zAm (by omega)]; omega
 have hin : ∀ i i', i < C.length -> i' < C.length -> 0 <= gi L i -> gi L i = gi L i' -> i = i' := fun i i' h h' h0 e => by
  rw [Jl (by omega)] at h0
  rw [Jl (by omega), Jl (by omega)] at e
  exact hinj i i' (by omega) (by omega) h0 e
 have e1 : ∀ i, i < C.length -> opn C i -> ∀ j (hj : j < A.length), gi L i = (j : Int) -> evI D i = some A[j] := fun i hi ho j hj hij => by
  obtain ⟨u, h1, h2⟩ := hP.old i hi
  obtain ⟨u', h3, h4⟩ := ziv.1 ho
  obtain rfl : u = u' := Option.some.inj (h1.symm.trans h3)
  rw [zcv, h2]
  show some _ = _
  rw [zo6, dif_pos ⟨h4, by omega, by omega⟩]
  congr 1
  simp only [hij, Int.toNat_natCast]
 have e2 : ∀ i, i < C.length -> ¬ (opn C i /\ 0 <= gi L i) -> evI D i = evI C i := fun i hi hn => by
  obtain ⟨u, h1, h2⟩ := hP.old i hi
  rw [zcv, zcv, h1, h2]
  show some _ = some _
  rw [zo6, dif_neg (fun h => hn ⟨ziv.2 ⟨u, h1, h.1⟩, h.2.1⟩)]
 have e3 : ∀ i j, C.length <= i -> (h : j < A.length) -> D[i]? = some [zab t A[j]] -> evI D i = some A[j] := fun i j hi hj he => by
  rw [zcv, he]; rfl
 have hmem : ∀ j : Nat, (j : Int) ∈ L ↔ ∃ i, i < C.length /\ gi L i = (j : Int) := fun j => by rw [zpB, hl]
 have nI : ∀ {X : List (List RT7)} {i : Nat} {a : RT0}, evI X i = some a -> ∀ nm, NmI X i nm ↔ nmE a = nm := fun h nm =>
  ⟨fun ⟨b, hb, e⟩ => by rw [h] at hb; rw [Option.some.inj hb]; exact e, fun e => ⟨_, h, e⟩⟩
 have nC : ∀ i, i < C.length -> ¬ (opn C i /\ 0 <= gi L i) -> ∀ nm, NmI D i nm ↔ NmI C i nm := fun i hi hn nm => by
  unfold NmI; rw [e2 i hi hn]
 -- the first entry of a name is followed by its event
 have f1 : ∀ i0 j (hj : j < A.length), i0 < C.length -> Fst C i0 (nmE A[j]) -> gi L1 i0 = (j : Int) /\ gi L i0 = (j : Int) := fun i0 j hj hi hf => by
  have h1 := (a4 i0 j hj hi).2 hf
  exact ⟨h1, by rw [k2 i0 (by omega), h1]⟩
 have dI : ∀ i j (hj : j < A.length), i < C.length -> gi L i = (j : Int) -> (opn C i \/ gi L1 i = (j : Int)) -> NmI D i (nmE A[j]) := fun i j hj hi hij ho => by
  by_cases hop : opn C i
  ·exact (nI (e1 i hi hop j hj hij) _).2 rfl
  ·rw [nC i hi (fun h => hop h.1)]
   exact ((a4 i j hj hi).1 (ho.resolve_left hop)).1
 -- no other old entry has the name
 have dN : ∀ i j (hj : j < A.length), i < C.length -> NmI D i (nmE A[j]) -> gi L i = (j : Int) /\ opn C i \/ ∃ i0, i0 <= i /\ gi L1 i0 = (j : Int) /\ gi L i0 = (j : Int) /\ ¬ (opn C i /\ 0 <= gi L i) := fun i j hj hi hn => by
  by_cases hop : opn C i /\ 0 <= gi L i
  ·obtain ⟨z, hz⟩ : ∃ z : Nat, gi L i = (z : Int) := ⟨(gi L i).toNat, by omega⟩
   have hzl : z < A.length := by have := (hlo i).2; omega
   have := (nI (e1 i hi hop.1 z hzl hz) _).1 hn
   have := hd.eq hzl hj this
   subst this
   exact .inl ⟨hz, hop.1⟩
  ·rw [nC i hi hop] at hn
   obtain ⟨i0, h1, h2⟩ := zvp i hn
   obtain ⟨h3, h4⟩ := f1 i0 j hj (by omega) h2
   exact .inr ⟨i0, h1, h3, h4, hop⟩
 have cA : ∀ i j (hj : j < A.length), i < C.length -> (gi M1 i = (j : Int) ↔ gi L i = (j : Int) /\ (opn C i \/ gi L1 i = (j : Int))) := fun i j hj hi => by
  have hiD : i < D.length := Nat.lt_of_lt_of_le hi hP.le
  rw [b4 i j hj hiD]
  constructor
  ·rintro ⟨h1, h2⟩
   rcases dN i j hj hi h1 with ⟨h3, h4⟩ | ⟨i0, h3, h4, h5, h6⟩
   ·exact ⟨h3, .inl h4⟩
   ·by_cases e : i0 = i
    ·subst e; exact ⟨h5, .inr h4⟩
    ·exact absurd (dI i0 j hj (by omega) h5 (.inr h4)) (h2 i0 (by omega))
  ·rintro ⟨h1, h2⟩
   refine ⟨dI i j hj hi h1 h2, fun i' hi' h3 => ?_⟩
   rcases dN i' j hj (by omega) h3 with ⟨h4, _⟩ | ⟨i0, h4, _, h5, _⟩
   ·have := hin i' i (by omega) hi (by omega) (by rw [h4, h1]); omega
   ·have := hin i0 i (by omega) hi (by omega) (by rw [h5, h1]); omega
 have cB : ∀ i j, C.length <= i -> (h : j < A.length) -> D[i]? = some [zab t A[j]] -> gi M1 i = (j : Int) := fun i j hi hj he => by
  have hiD : i < D.length := (List.getElem?_eq_some_iff.1 he).1
  obtain ⟨j', hj', hm, he'⟩ := hP.new i hi hiD
  have hjj : j' = j := by
   have h1 := e3 i j hi hj he
   have h2 := e3 i j' hi hj' he'
   rw [h1] at h2
   exact (hd.eq hj hj' (by rw [Option.some.inj h2])).symm
  subst hjj
  rw [b4 i j' hj hiD]
  refine ⟨(nI (e3 i j' hi hj he) _).2 rfl, fun i' hi' h3 => ?_⟩
  by_cases hc : i' < C.length
  ·rcases dN i' j' hj hc h3 with ⟨h4, _⟩ | ⟨i0, h4, _, h5, _⟩
   ·exact hm ((hmem j').2 ⟨i', hc, h4⟩)
   ·exact hm ((hmem j').2 ⟨i0, by omega, h5⟩)
  ·obtain ⟨z, hz, _, hez⟩ := hP.new i' (by omega) (by omega)
   have := (nI (e3 i' z (by omega) hz hez) _).1 h3
   have := hd.eq hz hj this
   subst this
   have := hP.dis i' i A[z] (by omega) hi hez he
   omega
 have hR : R2 C D A L L1 (gi M1) (fun j => (j : Int) ∉ L /\ j < A.length) 0 t1 M1 s1 := ⟨b1, a2, b2, fun i _ hi => by omega, fun i hi _ => by
  have hneg : ∀ i, gi M1 i >= 0 -> ∃ j : Nat, j < A.length /\ gi M1 i = (j : Int) := fun i h => ⟨(gi M1 i).toNat, by have := (b3 i).2; omega, by omega⟩
  refine ⟨fun ho => ?_, fun ho => ?_⟩
  ·by_cases h0 : 0 <= gi L i
   ·obtain ⟨j, hj⟩ : ∃ j : Nat, gi L i = (j : Int) := ⟨(gi L i).toNat, by omega⟩
    have hjl : j < A.length := by have := (hlo i).2; omega
    rw [hj]
    refine (cA i j hjl hi).2 ⟨hj, ?_⟩
    rcases ho with ho | ho
    ·exact .inl ho
    ·exact .inr (by rw [<- k2 i ho]; exact hj)
   ·by_cases h1 : 0 <= gi M1 i
    ·obtain ⟨j, hj, he⟩ := hneg i h1
     have := ((cA i j hj hi).1 he).1
     omega
    ·have h2 := (hlo i).1
     have h3 := (b3 i).1
     omega
  ·by_cases h1 : 0 <= gi M1 i
   ·obtain ⟨j, hj, he⟩ := hneg i h1
    obtain ⟨h2, h3⟩ := (cA i j hj hi).1 he
    exact absurd (h3.imp id (fun h => by omega)) ho
   ·have h3 := (b3 i).1
    omega, fun i hi hl => by
  obtain ⟨j, hj, _, he⟩ := hP.new i hi hl
  exact ⟨rfl, by rw [cB i j hi hj he]; omega⟩, fun j hj => by
  rw [b5 j hj, a5 j hj]
  constructor
  ·rintro ⟨i, hi, hn⟩
   by_cases hc : i < C.length
   ·rcases dN i j hj hc hn with ⟨h4, h5⟩ | ⟨i0, h4, h5, h6, _⟩
    ·exact .inr (.inl ⟨i, hc, h4, h5⟩)
    ·exact .inl ⟨i0, by omega, ((a4 i0 j hj (by omega)).1 h5).1⟩
   ·obtain ⟨z, hz, hm, hez⟩ := hP.new i (by omega) hi
    have := (nI (e3 i z (by omega) hz hez) _).1 hn
    have := hd.eq hz hj this
    subst this
    exact .inr (.inr ⟨hm, hj⟩)
  ·rintro (⟨i, hi, hn⟩ | ⟨i, hi, h4, h5⟩ | ⟨hm, _⟩)
   ·obtain ⟨i0, h1, h2⟩ := zvp i hn
    obtain ⟨h3, h4⟩ := f1 i0 j hj (by omega) h2
    exact ⟨i0, by have := hP.le; omega, dI i0 j hj (by omega) h4 (.inr h3)⟩
   ·exact ⟨i, by have := hP.le; omega, dI i j hj hi h4 (.inl h5)⟩
   ·obtain ⟨i, h1, h2, h3⟩ := hP.cov j hj hm
    exact ⟨i, h2, (nI (e3 i j h1 hj h3) _).2 rfl⟩⟩
 obtain ⟨r1, r2, r3⟩ := sim (U := fun j => (j : Int) ∉ L /\ j < A.length) hP.le hin (fun i => (hlo i).1) (fun j hU i hi he => hU.1 ((hmem j).2 ⟨i, hi, he⟩)) e2 p2 a1 (fun i _ => rfl) M1 L' s1 s2 hR q2
 refine ⟨r2, fun i j hi hj he => ?_⟩
 rw [r3 i hi (List.getElem?_eq_some_iff.1 he).1]
 exact cB i j hi hj he
end Go.Proofs.YthdgnfcbehcplaaDoor
end
section
namespace Go.Proofs.YthdgnfcbehcplaaDoor
theorem ziH (A : List RT0) (t : Int) : ∀ (D : List (List RT7)) (L : List Int) (k : Nat), L.length = D.length -> (∀ i, i < D.length -> ∃ u, (D[i]?).bind List.getLast? = some u /\ Jb A t u (gi L i) = none) -> List.zipWith (zbo A t) D L = D /\ zew A t k D L = []
 | [], _, _, _, _ => by simp [zew]
 | x :: D, [], _, h, _ => by cases h
 | x :: D, l :: L, k, h, hn => by
  obtain ⟨u, h1, h2⟩ := hn 0 (by simp)
  have h1' : x.getLast? = some u := h1
  have h2' : Jb A t u l = none := h2
  obtain ⟨i1, i2⟩ := ziH A t D L (k + 1) (by simpa using h) (fun i hi => hn (i + 1) (by simpa using hi))
  refine ⟨?_, ?_⟩
  ·rw [List.zipWith_cons_cons, i1]
   congr 1
   simp only [zbo, h1', h2']
  ·simp only [zew, h1', h2', i2]
theorem znA (t : Int) (A : List RT0) (T : List Bool) (hT : T.length = A.length) (h : ∀ j, j < A.length -> gb T j = true) : news t A T = [] := by
 obtain ⟨h1, _⟩ := zfH t A T hT
 by_cases hc : (news t A T).length = 0
 ·exact List.eq_nil_of_length_eq_zero hc
 ·obtain ⟨j, hj, e, _⟩ := h1 0 (by omega)
  rw [h j hj] at e; cases e
theorem zo0 {T t : Int} {m e : Nat} {C : List (List RT7)} (hC : CG T m e C) {A : List RT0} (hd : Dis A) {L L' : List Int} (hF : FolP C A L) (hF' : FolP (zbJ C A L t) A L') : zbJ (zbJ C A L t) A L' t = zbJ C A L t /\ zC6 (zbJ C A L t) A L' t = [] := by
 obtain ⟨hl, _, _⟩ := hF.inv
 obtain ⟨hl', _, _⟩ := hF'.inv
 have hP := zBp (t := t) hC hd hl
 obtain ⟨D, hD⟩ : ∃ D, D = zbJ C A L t := ⟨_, rfl⟩
 rw [<- hD] at hF' hl' hP |-
 obtain ⟨g1, g2⟩ := zlJ hd hP hF hF'
 have hn : ∀ i, i < D.length -> ∃ u, (D[i]?).bind List.getLast? = some u /\ Jb A t u (gi L' i) = none := fun i hi => by
  by_cases hc : i < C.length
  ·obtain ⟨u, _, h2⟩ := hP.old i hc
   exact ⟨_, h2, by rw [g1 i hc]; exact zjZ⟩
  ·obtain ⟨j, hj, _, he⟩ := hP.new i (by omega) hi
   refine ⟨zab t A[j], by rw [he]; rfl, ?_⟩
   rw [g2 i j (by omega) hj he]
   exact zba (u := zab t A[j]) rfl hj ⟨rfl, rfl⟩
 obtain ⟨z1, z2⟩ := ziH A t D L' 0 hl' hn
 have hT : ∀ j, j < A.length -> gb (tkF (List.replicate A.length false) L') j = true := fun j hj => by
  rw [zfq _ _ _ (by simpa using hj), zpB, hl']
  right
  by_cases hm : (j : Int) ∈ L
  ·obtain ⟨i, h1, h2⟩ := zpB.1 hm
   rw [hl] at h1
   exact ⟨i, by have := hP.le; omega, by rw [g1 i h1]; exact h2⟩
  ·obtain ⟨i, h1, h2, h3⟩ := hP.cov j hj hm
   exact ⟨i, h2, g2 i j h1 hj h3⟩
 have hnw := znA t A (tkF (List.replicate A.length false) L') (by rw [zfw]; simp) hT
 unfold zbJ zC6
 rw [z1, z2, hnw]
 simp
theorem d4 (v : RT7) : zgT ((zM v).drop 4) = some (evV v) := rfl
theorem zy8 {T : Int} {n i m : Nat} {x : List RT7} (h : XG T n i m x) (hm : m <= 100) (X Y : List (List AV)) (i : Int) : ∀ (d k f : Nat), k + d = x.length -> d < f -> (ZS 600).L f (x.map zM, x.map zM, i, (k : Int), X, Y) = some (.inr (i, X, Y)) := by
 have hxl := h.le
 intro d
 induction d with
 | zero =>
  intro k f hk hf
  obtain ⟨f, rfl⟩ := pS hf
  show (ZS 600).b _ _ ((ZS 600).L f) some = _
  have e2 : decide ((k : Int) < (x.length : Int)) = false := dF (by omega)
  simp only [ZS]
  simp only [List.length_map, e2]
 | succ d ih =>
  intro k f hk hf
  obtain ⟨f, rfl⟩ := pS hf
  have hkl : k < x.length := by omega
  have r1 := ih (k + 1) f (by omega) (by omega)
  show (ZS 600).b _ _ ((ZS 600).L f) some = _
  generalize (ZS 600).L f = Lf at r1 |-
  have e2 : decide ((k : Int) < (x.length : Int)) = true := dT (by omega)
  have h0 : 0 <= (k : Int) := by omega
  obtain ⟨b, q1, q2⟩ := zfu (evV x[k]) (evV x[k]) (h.vs k hkl).ev.pk (h.vs k hkl).ev.pk
  rw [q2.2 rfl] at q1
  have a0 : ((zM x[k]).drop 0)[0]? = some (AV.v (.int .i64 x[k].1)) := rfl
  have a1 : ((zM x[k]).drop 1)[0]? = some (AV.v (.int .i64 x[k].2.1)) := rfl
  have a2 : ((zM x[k]).drop 2)[0]? = some (AV.v (.string x[k].2.2.1)) := rfl
  have a3 : ((zM x[k]).drop 3)[0]? = some (AV.v (.int .i64 x[k].2.2.2.1)) := rfl
  simp only [ZS]
  simp only [List.length_map, e2, h0, if_true, Int.toNat_natCast, zp5 x k hkl, a0, a1, a2, a3, d4, bne_self_eq_false, beq_self_eq_true, Bool.not_true, q1, zp (show k < 1000000 by omega)]
  exact r1
theorem zmb {T : Int} {m e : Nat} {C : List (List RT7)} (hC : CG T m e C) (hm : m <= 100) (he : e <= 500) : zw4 600 (zP C, zP C) = some true := by
 have hle := hC.le
 have key : ∀ (d k f : Nat), k + d = C.length -> d < f -> (jC 600).L f ((k : Int), zP C, zP C) = some (.inr ()) := by
  intro d
  induction d with
  | zero =>
   intro k f hk hf
   obtain ⟨f, rfl⟩ := pS hf
   show (jC 600).b _ _ ((jC 600).L f) some = _
   have e2 : decide ((k : Int) < (C.length : Int)) = false := dF (by omega)
   simp only [jC]
   simp only [zU, e2]
  | succ d ih =>
   intro k f hk hf
   obtain ⟨f, rfl⟩ := pS hf
   have hkl : k < C.length := by omega
   have r1 := ih (k + 1) f (by omega) (by omega)
   have hx := hC.xs k hkl
   have hxl := hx.le
   have s1 := zy8 hx hm (zP C) (zP C) (k : Int) C[k].length 0 600 (by omega) (by omega)
   replace s1 : (ZS 600).L 600 (C[k].map zM, C[k].map zM, (k : Int), 0, zP C, zP C) = _ := s1
   show (jC 600).b _ _ ((jC 600).L f) some = _
   generalize (jC 600).L f = Lf at r1 |-
   have e2 : decide ((k : Int) < (C.length : Int)) = true := dT (by omega)
   have h0 : 0 <= (k : Int) := by omega
   simp only [jC]
   simp only [zU, e2, h0, if_true, Int.toNat_natCast, Zc C k hkl, zm5, zye, bne_self_eq_false, zpW, s1, zp (show k < 1000000 by omega)]
   exact r1
 have h1 := key C.length 0 600 (by omega) (by omega)
 replace h1 : (jC 600).L 600 (0, zP C, zP C) = some (.inr ()) := h1
 simp only [zw4, FSpec.d, zeb, bne_self_eq_false, zwy, h1]
theorem zt9 (xs : List Int) : zEe 600 (zA xs) = some true := by
 obtain ⟨n1, D0⟩ := zzn 600 xs
 obtain ⟨a, p1, g1, m1, D1⟩ := zdR 600 (n := 8) (by omega) D0
 obtain ⟨k, rfl⟩ : ∃ k : Nat, a = (k : Int) := ⟨a.toNat, by omega⟩
 obtain ⟨C, t, p2, g2, D2, t1, t2, hC⟩ := ztt D1 k (by omega)
 obtain ⟨A, p3, g3, l3, v3, D3⟩ := zl1 4 (by omega) D2
 replace g3 : zwF 600 (4, zA (xs.take 2000), p2) = some (A.map zB, zA (xs.take 2000), p3) := g3
 have hd : Dis A := v3.names
 obtain ⟨L, f1, f2, f3, f4⟩ := zhn hC (by omega) v3 (by omega) (by omega) (Int.le_refl t) (by omega) (by omega)
 obtain ⟨L', f1', f2', f3', f4'⟩ := zhn f4 (by omega) v3 (by omega) (by omega) (Int.le_refl t) (by omega) (by omega)
 obtain ⟨q1, q2⟩ := zo0 hC hd f2 f2'
 rw [q1, q2] at f3'
 have hs := zmb f4 (by omega) (by omega)
 have z2 : ((0 : Int) == 0) = true := by decide
 have z3 : (((zA []).length : Int) == 0) = true := by decide
 simp only [zEe, FSpec.d, zzf]
 simp only [n1, f8a, g1, f7a, g2, f9a, g3, f3, f3', z2, z3, hs, zs9]
end Go.Proofs.YthdgnfcbehcplaaDoor
end
section
namespace Go.Proofs.YthdgnfcbehcplaaDoor
open Go.RowKit
def bD (bs : List Bool) : DataW Unit := .agg (bs.map fun b => .lit (.bool b))
theorem jj {enc : TypeId × Value -> Unit} {P : Program} {w : World} {base : Nat} {sp : Nat -> Bool} {held : Bool} {fuel : Nat} {t e : TypeId} {n : Nat} {cs : List Value} {bs : List Bool} {p : List MemPlace}
  (ht : P.underlying t = some (.array n e)) (he : P.underlying e = some .bool) (hce : P.cellsOf e = 1) (hct : P.cellsOf t = n)
  (h : DataW.trod enc P w base sp held fuel t cs = some (bD bs, p)) : cs = bs.map Value.bool := by
 obtain ⟨xs, m, _, hx, hl, hn, hf⟩ := DataW.trod_array ht h
 have hxs : xs.map (·.1) = bs.map fun b => (DataW.lit (.bool b) : DataW Unit) := by
  have := congrArg Prod.fst hx
  unfold bD at this
  exact (DataW.agg.inj this).symm
 have hbl : bs.length = n := by
  have := congrArg List.length hxs
  simp at this
  omega
 rw [hce] at hf
 apply List.ext_getElem?
 intro i
 by_cases hi : i < n
 ·have hxi : xs[i]? = some xs[i] := List.getElem?_eq_getElem (by omega)
  have hfi := hf i hi
  rw [hxi] at hfi
  obtain ⟨b, hc, hb⟩ := DataW.trod_bool he hfi
  have h1 : cs[i]? = some (.bool b) := by
   have := congrArg (·[0]?) hc
   simpa [List.getElem?_take, List.getElem?_drop] using this
  have h2 : (xs.map (·.1))[i]? = some (DataW.lit (.bool b) : DataW Unit) := by simp [hxi, hb]
  rw [hxs] at h2
  simp only [List.getElem?_map, Option.map_eq_some_iff, DataW.lit.injEq, Lit.bool.injEq] at h2
  obtain ⟨z', hz', rfl⟩ := h2
  simp [h1, hz']
 ·rw [List.getElem?_eq_none (by omega), List.getElem?_eq_none (by simp; omega)]
theorem zdm {enc : TypeId × Value -> Unit} {P : Program} {w : World} {base : Nat} {sp : Nat -> Bool} {held : Bool} {fuel : Nat} {t r e : TypeId} {cs : List Value} {a0 a1 a2 a3 a4 a5 a6 : List Bool} {p : List MemPlace}
  (ht : P.underlying t = some (.array 7 r)) (hr : P.underlying r = some (.array 7 e)) (he : P.underlying e = some .bool) (hce : P.cellsOf e = 1) (hcr : P.cellsOf r = 7) (hct : P.cellsOf t = 49)
  (h : DataW.trod enc P w base sp held fuel t cs = some (.agg [bD a0, bD a1, bD a2, bD a3, bD a4, bD a5, bD a6], p)) : cs = (a0 ++ a1 ++ a2 ++ a3 ++ a4 ++ a5 ++ a6).map Value.bool := by
 obtain ⟨xs, m, _, hx, hl, hn, hf⟩ := DataW.trod_array ht h
 have hxs : [bD a0, bD a1, bD a2, bD a3, bD a4, bD a5, bD a6] = xs.map (·.1) := by
  have := congrArg Prod.fst hx
  exact DataW.agg.inj this
 rw [hcr] at hf
 rw [hct] at hl
 match xs, hn, hxs, hf with
 | [x0, x1, x2, x3, x4, x5, x6], _, hxs, hf =>
  simp only [List.map_cons, List.map_nil, List.cons.injEq, and_true] at hxs
  obtain ⟨e0, e1, e2, e3, e4, e5, e6⟩ := hxs
  have g : ∀ (i : Nat) (x : DataW Unit × List MemPlace) (b : List Bool), i < 7 -> [x0, x1, x2, x3, x4, x5, x6][i]? = some x -> bD b = x.1 -> (cs.drop (i * 7)).take 7 = b.map Value.bool := fun i x b hi hx hb => by
   have h2 := hf i hi
   rw [hx] at h2
   obtain ⟨x1, x2⟩ := x
   dsimp only at hb
   subst hb
   exact jj hr he hce hcr h2
  have k0 := g 0 x0 a0 (by omega) rfl e0
  have k1 := g 1 x1 a1 (by omega) rfl e1
  have k2 := g 2 x2 a2 (by omega) rfl e2
  have k3 := g 3 x3 a3 (by omega) rfl e3
  have k4 := g 4 x4 a4 (by omega) rfl e4
  have k5 := g 5 x5 a5 (by omega) rfl e5
  have k6 := g 6 x6 a6 (by omega) rfl e6
  have s : ∀ j, cs.drop (j * 7) = (cs.drop (j * 7)).take 7 ++ cs.drop ((j + 1) * 7) := fun j => by
   rw [Nat.add_mul, Nat.one_mul, <- List.drop_drop, List.take_append_drop]
  have z : cs.drop (7 * 7) = [] := List.drop_eq_nil_of_le (by omega)
  have : cs = cs.drop (0 * 7) := rfl
  rw [this, s 0, s 1, s 2, s 3, s 4, s 5, s 6, z, k0, k1, k2, k3, k4, k5, k6]
  simp only [List.map_append, List.append_nil, List.append_assoc]
theorem za1 {W : World} {n : String} {g : Nat} (P : Program) (hn : P.globalNamed n = some g) {cs : Array Value} (h : W.var? P n = some cs) : ∃ t z, W.heap[g]? = some (.cells cs t z) := by
 unfold World.var? at h
 rw [hn] at h
 have h' : (match W.heap[g]? with | some (Obj.cells cs _ _) => some cs | _ => none) = some cs := h
 split at h'
 ·rename_i c t z hc
  cases h'
  exact ⟨t, z, hc⟩
 ·cases h'
def zAD : List (String × DataW Unit) := Rows.cataloguePersonsRow.laid
theorem zyD {W : World} (h : laidMetH Tryd.prog zAD W) : (∃ t z, W.heap[0]? = some (.cells gtab0.toArray t z)) /\ (∃ t z, W.heap[1]? = some (.cells gtab1.toArray t z)) /\ (∃ t z, W.heap[2]? = some (.cells gtab2.toArray t z)) /\ (∃ t z, W.heap[3]? = some (.cells gtab3.toArray t z)) := by
 rw [MakeChecks.laidMetH_plain _ _ _ (by kernel_rfl)] at h
 obtain ⟨ps, ⟨g1, t1, c1, f1, p1, q1, n1, y1, v1, d1, ⟨g3, t3, c3, f3, p3, q3, n3, y3, v3, d3, ⟨g0, t0, c0, f0, p0, q0, n0, y0, v0, d0, ⟨g2, t2, c2, f2, p2, q2, n2, y2, v2, d2, _, _⟩, _⟩, _⟩, _⟩, _⟩ := h
 have m1 : Tryd.prog.globalNamed "seismonet/catalogue.follows" = some 1 := by kernel_rfl
 have m3 : Tryd.prog.globalNamed "seismonet/catalogue.computed" = some 3 := by kernel_rfl
 have m0 : Tryd.prog.globalNamed "seismonet/catalogue.shown" = some 0 := by kernel_rfl
 have m2 : Tryd.prog.globalNamed "seismonet/catalogue.kept" = some 2 := by kernel_rfl
 obtain rfl := Option.some.inj (m1.symm.trans n1)
 obtain rfl := Option.some.inj (m3.symm.trans n3)
 obtain rfl := Option.some.inj (m0.symm.trans n0)
 obtain rfl := Option.some.inj (m2.symm.trans n2)
 have u1 : (Tryd.prog.globals[1]?).map (·.type) = some 94 := by kernel_rfl
 have u3 : (Tryd.prog.globals[3]?).map (·.type) = some 86 := by kernel_rfl
 have u0 : (Tryd.prog.globals[0]?).map (·.type) = some 86 := by kernel_rfl
 have u2 : (Tryd.prog.globals[2]?).map (·.type) = some 86 := by kernel_rfl
 obtain rfl := Option.some.inj (u1.symm.trans y1)
 obtain rfl := Option.some.inj (u3.symm.trans y3)
 obtain rfl := Option.some.inj (u0.symm.trans y0)
 obtain rfl := Option.some.inj (u2.symm.trans y2)
 have e4 : Tryd.prog.cellsOf 4 = 1 := by kernel_rfl
 have e86 : Tryd.prog.cellsOf 86 = 7 := by kernel_rfl
 have e94 : Tryd.prog.cellsOf 94 = 49 := by kernel_rfl
 have z0 : c0.toList = gtab0 := jj (bs := [false, true, false, true, false, false, true]) Tryd.underlying86 Tryd.underlying4 e4 e86 d0
 have z2 : c2.toList = gtab2 := jj (bs := [false, false, true, false, true, true, true]) Tryd.underlying86 Tryd.underlying4 e4 e86 d2
 have z3 : c3.toList = gtab3 := jj (bs := [false, true, true, false, false, false, false]) Tryd.underlying86 Tryd.underlying4 e4 e86 d3
 have z1 : c1.toList = gtab1 := zdm (a0 := [false, false, false, false, false, false, false]) (a1 := [false, true, true, false, false, false, true]) (a2 := [false, true, false, false, false, false, true]) (a3 := [false, true, true, true, true, true, true]) (a4 := [false, true, true, true, true, true, true]) (a5 := [false, true, true, true, true, true, true]) (a6 := [false, false, false, true, true, true, false]) Tryd.underlying94 Tryd.underlying86 Tryd.underlying4 e4 e86 e94 d1
 have w0 := za1 _ m0 v0
 have w1 := za1 _ m1 v1
 have w2 := za1 _ m2 v2
 have w3 := za1 _ m3 v3
 rw [<- z0, <- z1, <- z2, <- z3]
 exact ⟨w0, w1, w2, w3⟩
theorem zi6 {W : World} {g : Nat} {cs : List Value} (h1 : ∀ x ∈ cs, ∃ b, x = Value.bool b) (hw : ∃ t z, W.heap[g]? = some (.cells cs.toArray t z)) : (∀ j, (cs.getD j (.bool true)).oneCell' = true /\ (j < cs.length -> zhD W g j = some (cs.getD j (.bool true)))) /\ (∃ (t : TypeId) (z : Nat × Nat), W.heap[g]? = some (.cells cs.toArray t z)) /\ some g ∉ ([] : List (Option Nat)) /\ ¬ InT za8 [] g := by
 refine ⟨fun j => ⟨?_, fun hj => ?_⟩, hw, fun h => (by cases h), fun ⟨t, h, _⟩ => (by cases h)⟩
 ·by_cases hj : j < cs.length
  ·rw [List.getD_eq_getElem?_getD, List.getElem?_eq_getElem hj]
   obtain ⟨b, hb⟩ := h1 _ (List.getElem_mem hj)
   rw [Option.getD_some, hb]; rfl
  ·rw [List.getD_eq_getElem?_getD, List.getElem?_eq_none (by simpa using hj)]
   rfl
 ·obtain ⟨t, z, hw⟩ := hw
  show W.cell? ⟨g, j, none⟩ = _
  rw [List.getD_eq_getElem?_getD, List.getElem?_eq_getElem hj, Option.getD_some]
  simp [World.cell?, hw, hj]
theorem zD1 {W : World} (h : laidMetH Tryd.prog zAD W) : zsq (zhD W) W [] (InT za8 []) := by
 obtain ⟨w0, w1, w2, w3⟩ := zyD h
 have hb : ∀ (l : List Bool), ∀ x ∈ l.map Value.bool, ∃ b, x = Value.bool b := fun l x hx => by
  obtain ⟨b, _, e⟩ := List.mem_map.1 hx
  exact ⟨b, e.symm⟩
 intro g cs hg
 unfold glb at hg
 split at hg
 ·cases hg; exact zi6 (hb _) w0
 ·cases hg; exact zi6 (hb _) w1
 ·cases hg; exact zi6 (hb _) w2
 ·cases hg; exact zi6 (hb _) w3
 ·cases hg
end Go.Proofs.YthdgnfcbehcplaaDoor
end
section
namespace Go.Proofs.YthdgnfcbehcplaaDoor
open Go.RowKit
theorem J0 (a : Option Addr) (len cap : Nat) (W : World) (w : zjn W (.slice a len cap)) (hgl : zsq (zhD W) W [] (InT za8 [])) : Calls Tryd.prog 3 #[.slice a len cap] W fun e w' => e = .returned (.bool true) /\ Below W.heap.size W w' := by
 obtain ⟨xs, hb, hl, hr⟩ := w
 refine CallOk.calls ((F3_e 600).ok (zA xs) true (zt9 xs)) W _ rfl (fun i h h' => ?_) hgl
 obtain rfl : i = 0 := by have : i < 1 := h'; omega
 exact hr _ _
end Go.Proofs.YthdgnfcbehcplaaDoor
end
