/- Several texts as one (written by pack.py). -/
import Derived.Test.YthdgnfcbehcplaaGreatDoorCaD
set_option linter.unusedVariables false
set_option linter.unusedSimpArgs false
set_option linter.unnecessarySimpa false
namespace Go.Proofs.YthdgnfcbehcplaaGreatDoor
section
theorem pk0 (e : RT0) : (((zu e).drop 9).drop 0)[0]? = some (AV.list 9 (pkE e) none) := rfl
theorem zyE (xs : List (List AV)) : ZW 9 (AV.list 9 xs none) = some xs := by simp [ZW]
theorem zi6 (A : List RT0) (P : List RT1) (i : Nat) (hi : i <= A.length) (hA : A.length <= 500) (hP : P.length <= 500) (h : ∀ k (h : k < A.length), k < i -> ∃ Q : List RT1, Q.length <= 500 /\ pkE A[k] = Q.map zj /\ ¬ Com P Q) : ∀ (d k f : Nat), k + d = i -> d < f -> (Zw 600).L f (A.map zu, P.map zj, (i : Int), (k : Int)) = some (.inr (A.map zu, (i : Int))) := by
 intro d
 induction d with
 | zero =>
  intro k f hk hf
  obtain ⟨f, rfl⟩ := pS hf
  show (Zw 600).b _ _ ((Zw 600).L f) some = _
  simp only [Zw]
  have e2 : decide ((k : Int) < (i : Int)) = false := dF (by omega)
  simp only [e2]
 | succ d ih =>
  intro k f hk hf
  obtain ⟨f, rfl⟩ := pS hf
  have hkl : k < A.length := by omega
  have e2 : decide ((k : Int) < (i : Int)) = true := dT (by omega)
  have e3 : (0 : Int) <= (k : Int) := by omega
  obtain ⟨Q, q1, q2, q3⟩ := h k hkl (by omega)
  obtain ⟨b, b1, b2⟩ := zAS P Q hP q1
  obtain rfl : b = false := by cases b with | false => rfl | true => exact absurd (b2.1 rfl) q3
  have r1 := ih (k + 1) f (by omega) (by omega)
  show (Zw 600).b _ _ ((Zw 600).L f) some = _
  generalize (Zw 600).L f = Lf at r1 |-
  simp only [Zw]
  simp only [e2, e3, if_true, Int.toNat_natCast, zjl A k hkl, pk0, zyE, q2, b1, zi (show k < 1000000 by omega)]
  exact r1
theorem zcN (A : List RT0) (hA : A.length <= 5) : ∀ (R : List RT0) (k lo f : Nat), A.drop k = R -> R.length < f -> k + R.length = A.length -> Evs lo 5 R -> (∀ j (h : j < A.length), j < k -> ∃ n, n < lo /\ EvAt n A[j]) ->
  (zW 600).L f (A.map zu, (k : Int)) = some (.inr ())
 | [], k, lo, f, hR, hf, hk, hE, hN => by
  obtain ⟨f, rfl⟩ := pS hf
  show (zW 600).b _ _ ((zW 600).L f) some = _
  simp only [zW]
  have e2 : decide ((k : Int) < (A.length : Int)) = false := by rw [decide_eq_false_iff_not]; simp at hk; omega
  simp only [List.length_map, e2]
 | e :: R, k, lo, f, hR, hf, hk, hE, hN => by
  obtain ⟨f, rfl⟩ := pS hf
  rw [List.length_cons] at hf hk
  have hkl : k < A.length := by omega
  have hek : A[k] = e := by
   have := List.drop_eq_getElem_cons hkl
   rw [hR] at this
   exact (List.cons.inj this).1.symm
  obtain ⟨n, hn, hev, hE'⟩ := hE
  have hn5 := zdB hE'
  have r1 := zcN A hA R (k + 1) (n + 1) f (by rw [<- List.tail_drop, hR]; rfl) (by omega) (by omega) hE' (λ j h hj => by
   by_cases hc : j = k
   ·subst hc; exact ⟨n, by omega, by rw [hek]; exact hev⟩
   ·obtain ⟨m, h1, h2⟩ := hN j h (by omega); exact ⟨m, by omega, h2⟩)
  obtain ⟨g, c, c1, c2, c3, c4, c5, c6⟩ := hev
  have e2 : decide ((k : Int) < (A.length : Int)) = true := dT (by omega)
  have e3 : (0 : Int) <= (k : Int) := by omega
  have s1 := zpg n g c (by omega) c1 c2 c3
  have s2 := zpj n g c (by omega) c1 c2 c3
  have s3 := zpi n g c (by omega) c1 c2 c3
  have sl := zi6 A (pks n g c) k (by omega) (by omega) (by rw [jH]; omega) (λ j h hj => by
   obtain ⟨m, h1, g', c', z1, z2, z3, z4, z5, z6⟩ := hN j h hj
   refine ⟨pks m g' c', by rw [jH]; omega, z5, λ ⟨p, q1, q2⟩ => ?_⟩
   have t1 := (zil c2 p q1).1
   have t2 := (zil z2 p q2).2
   omega) k 0 600 (by omega) (by omega)
  replace sl : (Zw 600).L 600 (A.map zu, (pks n g c).map zj, (k : Int), 0) = some (.inr (A.map zu, (k : Int))) := sl
  have e4 : (((pks n g c).length : Int) == 0) = false := by rw [jH]; simp; omega
  have e5 : eqP (nmE e) (pick n g) = true := by rw [c4]; exact JU _
  show (zW 600).b _ _ ((zW 600).L f) some = _
  generalize (zW 600).L f = Lf at r1 |-
  simp only [zW]
  simp only [List.length_map, e2, e3, if_true, Int.toNat_natCast, zjl A k hkl, hek, pk0, zyE, c5, e4, nm0, s1, s2, s3, e5, Bool.not_true]
  by_cases hk0 : (k : Int) > 0
  ·have hk1 : i64 ((k : Int) - 1) = ((k - 1 : Nat) : Int) := by rw [zG (by omega)]; omega
   obtain ⟨n', z0, g', c', z1, z2, z3, z4, z5, z6⟩ := hN (k - 1) (by omega) (by omega)
   have hl := (zmA n' n g' g (by omega) (by omega) z3 c3).2
   rw [<- c4] at hl
   rw [<- z4] at hl
   have e6 : decide ((-1 : Int) >= 0) = false := by decide
   have e7 : (0 : Int) <= ((k - 1 : Nat) : Int) := by omega
   simp only [hk0, decide_true, hk1, e7, if_true, Int.toNat_natCast, zjl A (k - 1) (by omega), nm0, hl, e6, zbR, sl, zi (show k < 1000000 by omega)]
   exact r1
  ·simp only [hk0, decide_false, zbR, sl, zi (show k < 1000000 by omega)]
   exact r1
theorem zbf {A : List RT0} {m : Nat} (hm : m <= 5) (h : Evs 0 m A) : Jk 600 (A.map zu) = some true := by
 have hl := zdB h
 have := zcN A (by omega) A 0 0 600 rfl (by omega) (by omega) (h.mono hm) (λ j _ hj => by omega)
 replace this : (zW 600).L 600 (A.map zu, 0) = some (.inr ()) := this
 simp only [Jk, FSpec.d, znC, zkP, this]
end
section
theorem zob : zwS 600 () = some true := by kernel_rfl
@[reducible] def kdV (v : RT7) : Int := v.1
@[reducible] def atV (v : RT7) : Int := v.2.1
@[reducible] def byV (v : RT7) : ByteArray := v.2.2.1
@[reducible] def inV (v : RT7) : Int := v.2.2.2.1
@[reducible] def evV (v : RT7) : RT0 := v.2.2.2.2
def zph (x : List RT7) : List AV := [AV.list 29 (x.map zp) none]
def zh (C : List (List RT7)) : List (List AV) := C.map zph
theorem zq (C : List (List RT7)) : (zh C).length = C.length := by simp [zh]
theorem zI (C : List (List RT7)) (k : Nat) (h : k < C.length) : (zh C)[k]? = some (zph C[k]) := by simp [zh, h]
theorem zg1 (x : List RT7) : ze2 (zph x) = some (x.map zp, ()) := by
 show dec RK6 [AV.list 29 (x.map zp) none] = _
 simp only [dec, znp, ZW, if_true]
theorem zfI (x : List RT7) : ((zph x).drop 0)[0]? = some (AV.list 29 (x.map zp) none) := rfl
theorem zjr (xs : List (List AV)) : ZW 29 (AV.list 29 xs none) = some xs := by simp [ZW]
theorem zcA (P : List RT7) (k : Nat) (h : k < P.length) : (P.map zp)[k]? = some (zp P[k]) := by simp [h]
theorem rd7 (v : RT7) : zgs (zp v) = some v := zsH v
def ann : ByteArray := ⟨#[97, 110, 110]⟩
def bob : ByteArray := ⟨#[98, 111, 98]⟩
def nob : ByteArray := ⟨#[]⟩
def Per (b : ByteArray) : Prop := zcV b = true
theorem zqY {b : ByteArray} (h : Per b) : zgp 600 b = some true /\ zgo 600 b = some true /\ (b.toList == nob.toList) = false := by
 have h' := h
 unfold Per zcV at h'
 simp only [Bool.and_eq_true, decide_eq_true_eq] at h'
 obtain ⟨-, h1, h2⟩ := h'
 have hs : b.size <= 9223372036854775807 := by omega
 refine ⟨(if_pos hs).trans (congrArg some h), (if_pos hs).trans (congrArg some h), ?_⟩
 cases e : b.toList == nob.toList with
 | false => rfl
 | true =>
  rw [<- beq_toListBytes] at e
  rw [ze9.1 e] at h1
  exact absurd h1 (by decide)
def jR (k : Int) : Bool := k == 1 || (k == 2 || k == 6)
def zfM (k : Int) : Bool := k == 1 || (k == 3 || k == 6)
def ztc (k u : Int) : Bool := if k = 1 then jR u else if k = 2 then (u == 1 || u == 6) else if k = 6 then !(jR u) else true
def jF (k : Int) : Bool := k != 1 && k != 3
theorem zih (N : Nat) (v : RT7) : zgg N v = some (jR (kdV v)) := by
 simp only [zgg, FSpec.d, zse, jR]
 cases v.1 == 1 <;> cases v.1 == 2 <;> cases v.1 == 6 <;> rfl
theorem ztZ (N : Nat) (v : RT7) : zsa N v = some (zfM (kdV v)) := by
 simp only [zsa, FSpec.d, zsb, zfM]
 cases v.1 == 1 <;> cases v.1 == 3 <;> cases v.1 == 6 <;> rfl
theorem ztd (N : Nat) (v u : RT7) : zgq N (v, u) = some (ztc (kdV v) (kdV u)) := by
 simp only [zgq, FSpec.d, zsE, ztc, zih]
 by_cases h1 : v.1 = 1
 ·simp [h1]
 ·by_cases h2 : v.1 = 2
  ·simp [h2]
   cases u.1 == 1 <;> simp
  ·by_cases h6 : v.1 = 6
   ·simp [h6]
   ·have e1 : (v.1 == 1) = false := by simpa using h1
    have e2 : (v.1 == 2) = false := by simpa using h2
    have e6 : (v.1 == 6) = false := by simpa using h6
    simp only [e1, e2, e6, if_neg h1, if_neg h2, if_neg h6]
theorem zfu (N : Nat) (k : Int) : ze1 N k = some (jF k) := by
 simp only [ze1, FSpec.d, zsv, jF]
 cases k != 1 <;> simp
def Kd6 (k : Int) : Prop := k = 1 \/ k = 2 \/ k = 3 \/ k = 4 \/ k = 5 \/ k = 6
theorem zxW {k : Int} (h : Kd6 k) : znN 600 k = some (jR k) := by
 rcases h with rfl | rfl | rfl | rfl | rfl | rfl <;> kernel_rfl
theorem zpw {k : Int} (h : Kd6 k) : ((gtab3.map AV.v).drop (k.toNat * 1))[0]? = some (.v (.bool (k == 1 || k == 2))) := by
 rcases h with rfl | rfl | rfl | rfl | rfl | rfl <;> kernel_rfl
theorem zit {k : Int} (h : Kd6 k) : ((gtab2.map AV.v).drop (k.toNat * 1))[0]? = some (.v (.bool (jF k))) := by
 rcases h with rfl | rfl | rfl | rfl | rfl | rfl <;> kernel_rfl
theorem zt4 {k u : Int} (h : Kd6 k) (hu : Kd6 u) : (((gtab1.map AV.v).drop (k.toNat * 7)).drop (u.toNat * 1))[0]? = some (.v (.bool (ztc k u))) := by
 rcases h with rfl | rfl | rfl | rfl | rfl | rfl <;> rcases hu with rfl | rfl | rfl | rfl | rfl | rfl <;> kernel_rfl
theorem Kd6.lt {k : Int} (h : Kd6 k) : 0 <= k /\ k < 7 /\ 1 <= k /\ k <= 6 := by unfold Kd6 at h; omega
def EvN (e : RT0) : Prop := ∃ n, n < 5 /\ EvAt n e
theorem EvN.one {e : RT0} (h : EvN e) : Evs 0 5 [e] := by
 obtain ⟨n, h1, h2⟩ := h
 exact ⟨n, Nat.zero_le _, h2, by show n + 1 <= 5; omega⟩
theorem zsP {e : RT0} (h : EvN e) : Jk 600 [zu e] = some true := zbf (A := [e]) (by omega) h.one
theorem zsO {e : RT0} (h : EvN e) : zd0 600 [zu e] = some true := zcs (A := [e]) (by omega) h.one
theorem Evs.evn {E : List RT0} {m : Nat} (hm : m <= 5) (h : Evs 0 m E) : ∀ e ∈ E, EvN e := λ e he => by
 obtain ⟨n, _, h2, h3⟩ := h.all e he
 exact ⟨n, by omega, h3⟩
end
section
theorem zio {P Q : List RT1} (h : P.map zj = Q.map zj) : P = Q := by
 have hi : ∀ a b : RT1, zj a = zj b -> a = b := λ a b h => by
  have := congrArg jI h
  rw [zT, zT] at this
  exact Option.some.inj this
 induction P generalizing Q with
 | nil => cases Q with
  | nil => rfl
  | cons q Q => cases h
 | cons p P ih => cases Q with
  | nil => cases h
  | cons q Q =>
   simp only [List.map_cons, List.cons.injEq] at h
   rw [hi p q h.1, ih h.2]
theorem zqN {a e : RT0} (h1 : nmE a = nmE e) (h2 : zt a = zt e) : a = e := by
 have e1 : ∀ x : RT0, x = ((nmE x).1, (nmE x).2.1, (nmE x).2.2.1, (nmE x).2.2.2.1, (nmE x).2.2.2.2.1, (nmE x).2.2.2.2.2.1, (nmE x).2.2.2.2.2.2.1, (nmE x).2.2.2.2.2.2.2.1, (nmE x).2.2.2.2.2.2.2.2.1, zt x) := λ x => rfl
 rw [e1 a, e1 e, h1, h2]
theorem ztR (P Q : List RT1) (hl : P.length = Q.length) (hP : P.length <= 500) : ∀ (d k f : Nat), k + d = P.length -> d < f -> ∃ y, (ji 600).L f (P.map zj, Q.map zj, (k : Int)) = some y /\ ((P.drop k = Q.drop k /\ y = .inr ()) \/ (P.drop k ≠ Q.drop k /\ y = .inl false)) := by
 intro d
 induction d with
 | zero =>
  intro k f hk hf
  obtain ⟨f, rfl⟩ := pS hf
  refine ⟨_, ?_, .inl ⟨by rw [List.drop_eq_nil_of_le (by omega), List.drop_eq_nil_of_le (by omega)], rfl⟩⟩
  show (ji 600).b _ _ ((ji 600).L f) some = _
  simp only [ji]
  have e2 : decide ((k : Int) < (P.length : Int)) = false := dF (by omega)
  simp only [List.length_map, e2]
 | succ d ih =>
  intro k f hk hf
  obtain ⟨f, rfl⟩ := pS hf
  have hkl : k < P.length := by omega
  have hkq : k < Q.length := by omega
  have e2 : decide ((k : Int) < (P.length : Int)) = true := dT (by omega)
  have h0 : 0 <= (k : Int) := by omega
  have dP := List.drop_eq_getElem_cons hkl
  have dQ := List.drop_eq_getElem_cons hkq
  by_cases he : P[k] = Q[k]
  ·obtain ⟨y, r1, r2⟩ := ih (k + 1) f (by omega) (by omega)
   refine ⟨y, ?_, ?_⟩
   ·show (ji 600).b _ _ ((ji 600).L f) some = _
    generalize (ji 600).L f = Lf at r1 |-
    simp only [ji]
    have ee := JU P[k]
    simp only [eqP] at ee
    simp only [List.length_map, e2, h0, if_true, Int.toNat_natCast, zaC P k hkl, zaC Q k hkq, zT, <- he, ee, Bool.not_true, zi (show k < 1000000 by omega)]
    exact r1
   ·rw [dP, dQ, he]
    rcases r2 with ⟨a, b⟩ | ⟨a, b⟩
    ·exact .inl ⟨by rw [a], b⟩
    ·exact .inr ⟨λ e => a (by injection e), b⟩
  ·refine ⟨_, ?_, .inr ⟨λ e => he (by rw [dP, dQ] at e; injection e), rfl⟩⟩
   show (ji 600).b _ _ ((ji 600).L f) some = _
   simp only [ji]
   have ee := zan he
   simp only [eqP] at ee
   simp only [List.length_map, e2, h0, if_true, Int.toNat_natCast, zaC P k hkl, zaC Q k hkq, zT, ee, Bool.not_false]
theorem zya (P Q : List RT1) (hP : P.length <= 500) (hQ : Q.length <= 500) : ∃ b, zgh 600 (P.map zj, Q.map zj) = some b /\ (b = true ↔ P = Q) := by
 simp only [zgh, FSpec.d, zsg, List.length_map]
 by_cases hl : P.length = Q.length
 ·have e1 : ((P.length : Int) != (Q.length : Int)) = false := by simp [hl]
  obtain ⟨y, h1, h2⟩ := ztR P Q hl hP P.length 0 600 (by omega) (by omega)
  replace h1 : (ji 600).L 600 (P.map zj, Q.map zj, 0) = some y := h1
  simp only [e1, zqm, h1]
  rw [List.drop_zero, List.drop_zero] at h2
  rcases h2 with ⟨a, rfl⟩ | ⟨a, rfl⟩
  ·exact ⟨_, rfl, by simp [a]⟩
  ·exact ⟨_, rfl, by simp [a]⟩
 ·have e1 : ((P.length : Int) != (Q.length : Int)) = true := by simp; omega
  have : P ≠ Q := λ e => hl (by rw [e])
  simp only [e1]
  exact ⟨_, rfl, by simp [this]⟩
theorem ztK (P Q : List RT1) (hl : P.length = Q.length) (hP : P.length <= 500) : ∀ (d k f : Nat), k + d = P.length -> d < f -> ∃ y, (Zt 600).L f (P.map zj, Q.map zj, (P.length : Int), (k : Int)) = some y /\ ((P.drop k = Q.drop k /\ y = .inr ()) \/ (P.drop k ≠ Q.drop k /\ y = .inl false)) := by
 intro d
 induction d with
 | zero =>
  intro k f hk hf
  obtain ⟨f, rfl⟩ := pS hf
  refine ⟨_, ?_, .inl ⟨by rw [List.drop_eq_nil_of_le (by omega), List.drop_eq_nil_of_le (by omega)], rfl⟩⟩
  show (Zt 600).b _ _ ((Zt 600).L f) some = _
  simp only [Zt]
  have e2 : decide ((k : Int) < (P.length : Int)) = false := dF (by omega)
  simp only [List.length_map, e2]
 | succ d ih =>
  intro k f hk hf
  obtain ⟨f, rfl⟩ := pS hf
  have hkl : k < P.length := by omega
  have hkq : k < Q.length := by omega
  have e2 : decide ((k : Int) < (P.length : Int)) = true := dT (by omega)
  have h0 : 0 <= (k : Int) := by omega
  have dP := List.drop_eq_getElem_cons hkl
  have dQ := List.drop_eq_getElem_cons hkq
  by_cases he : P[k] = Q[k]
  ·obtain ⟨y, r1, r2⟩ := ih (k + 1) f (by omega) (by omega)
   refine ⟨y, ?_, ?_⟩
   ·show (Zt 600).b _ _ ((Zt 600).L f) some = _
    generalize (Zt 600).L f = Lf at r1 |-
    simp only [Zt]
    have ee := JU P[k]
    simp only [eqP] at ee
    simp only [List.length_map, e2, h0, if_true, Int.toNat_natCast, zaC P k hkl, zaC Q k hkq, zT, <- he, ee, Bool.not_true, zi (show k < 1000000 by omega)]
    exact r1
   ·rw [dP, dQ, he]
    rcases r2 with ⟨a, b⟩ | ⟨a, b⟩
    ·exact .inl ⟨by rw [a], b⟩
    ·exact .inr ⟨λ e => a (by injection e), b⟩
  ·refine ⟨_, ?_, .inr ⟨λ e => he (by rw [dP, dQ] at e; injection e), rfl⟩⟩
   show (Zt 600).b _ _ ((Zt 600).L f) some = _
   simp only [Zt]
   have ee := zan he
   simp only [eqP] at ee
   simp only [List.length_map, e2, h0, if_true, Int.toNat_natCast, zaC P k hkl, zaC Q k hkq, zT, ee, Bool.not_false]
theorem zA9 (P Q : List RT1) (hP : P.length <= 500) (hQ : Q.length <= 500) : ∃ b, zeR 600 (P.map zj, Q.map zj) = some b /\ (b = true ↔ P = Q) := by
 simp only [zeR, FSpec.d, zkh, List.length_map]
 by_cases hl : P.length = Q.length
 ·have e1 : ((P.length : Int) != (Q.length : Int)) = false := by simp [hl]
  obtain ⟨y, h1, h2⟩ := ztK P Q hl hP P.length 0 600 (by omega) (by omega)
  replace h1 : (Zt 600).L 600 (P.map zj, Q.map zj, (P.length : Int), 0) = some y := h1
  simp only [e1, zkf, h1]
  rw [List.drop_zero, List.drop_zero] at h2
  rcases h2 with ⟨a, rfl⟩ | ⟨a, rfl⟩
  ·exact ⟨_, rfl, by simp [a]⟩
  ·exact ⟨_, rfl, by simp [a]⟩
 ·have e1 : ((P.length : Int) != (Q.length : Int)) = true := by simp; omega
  have : P ≠ Q := λ e => hl (by rw [e])
  simp only [e1]
  exact ⟨_, rfl, by simp [this]⟩
theorem zo9 (a e : RT0) (ha : Jf a) (he : Jf e) : ∃ b, zr7 600 (zt a, zt e) = some b /\ (b = true ↔ (zt a) = (zt e)) := by
 obtain ⟨P, hP1, hP⟩ := ha
 obtain ⟨Q, hQ1, hQ⟩ := he
 obtain ⟨b, h1, h2⟩ := zya P Q (by omega) (by omega)
 have h3 : zgh 600 ((zt a).1, (zt e).1) = some b := by
  show zgh 600 (pkE a, pkE e) = some b
  rw [hP, hQ]; exact h1
 have hpq : (zt a).1 = (zt e).1 ↔ P = Q := by
  show pkE a = pkE e ↔ P = Q
  rw [hP, hQ]
  exact ⟨λ h => zio h, λ h => by rw [h]⟩
 generalize zt a = A at *
 generalize zt e = E at *
 simp only [zr7, FSpec.d, zr8, h3]
 cases b with
 | false => exact ⟨_, rfl, by
   constructor
   ·intro h; cases h
   ·intro h; exact absurd (h2.2 (hpq.1 (by rw [h]))) (by simp)⟩
 | true =>
  have hpe : A.1 = E.1 := hpq.2 (h2.1 rfl)
  simp only
  split
  ·rename_i c1
   split
   ·rename_i c2
    refine ⟨_, rfl, ⟨λ h => ?_, λ h => (by rw [h]; simp)⟩⟩
    simp only [Bool.and_eq_true, beq_iff_eq, and_true] at c1 c2 h
    simp [Prod.ext_iff, *]
   ·rename_i c2
    refine ⟨_, rfl, ⟨λ h => (by cases h), λ h => ?_⟩⟩
    rw [h] at c2; simp at c2
  ·rename_i c1
   refine ⟨_, rfl, ⟨λ h => (by cases h), λ h => ?_⟩⟩
   rw [h] at c1; simp at c1
theorem zcJ (a e : RT0) (ha : Jf a) (he : Jf e) : ∃ b, zaH 600 (a, e) = some b /\ (b = true ↔ a = e) := by
 obtain ⟨b, h1, h2⟩ := zo9 a e ha he
 simp only [zaH, FSpec.d, zr1, h1]
 have hae : a = e ↔ nmE a = nmE e /\ zt a = zt e := ⟨λ h => by rw [h]; exact ⟨rfl, rfl⟩, λ ⟨x, y⟩ => zqN x y⟩
 by_cases hn : nmE a = nmE e
 ·have ee := (congrArg (eqP (nmE a)) hn).symm.trans (JU (nmE a))
  simp only [eqP] at ee
  simp only [ee]
  exact ⟨b, rfl, by rw [h2, hae]; exact ⟨λ h => ⟨hn, h⟩, λ h => h.2⟩⟩
 ·have ee := zan hn
  simp only [eqP] at ee
  simp only [ee]
  exact ⟨_, rfl, by rw [hae]; simp [hn]⟩
theorem zo5 (a e : RT0) (ha : Jf a) (he : Jf e) : ∃ b, zj5 600 (zt a, zt e) = some b /\ (b = true ↔ (zt a) = (zt e)) := by
 obtain ⟨P, hP1, hP⟩ := ha
 obtain ⟨Q, hQ1, hQ⟩ := he
 obtain ⟨b, h1, h2⟩ := zA9 P Q (by omega) (by omega)
 have h3 : zeR 600 ((zt a).1, (zt e).1) = some b := by
  show zeR 600 (pkE a, pkE e) = some b
  rw [hP, hQ]; exact h1
 have hpq : (zt a).1 = (zt e).1 ↔ P = Q := by
  show pkE a = pkE e ↔ P = Q
  rw [hP, hQ]
  exact ⟨λ h => zio h, λ h => by rw [h]⟩
 generalize zt a = A at *
 generalize zt e = E at *
 simp only [zj5, FSpec.d, zj6, h3]
 cases b with
 | false => exact ⟨_, rfl, by
   constructor
   ·intro h; cases h
   ·intro h; exact absurd (h2.2 (hpq.1 (by rw [h]))) (by simp)⟩
 | true =>
  have hpe : A.1 = E.1 := hpq.2 (h2.1 rfl)
  simp only
  split
  ·rename_i c1
   split
   ·rename_i c2
    refine ⟨_, rfl, ⟨λ h => ?_, λ h => (by rw [h]; simp)⟩⟩
    simp only [Bool.and_eq_true, beq_iff_eq, and_true] at c1 c2 h
    simp [Prod.ext_iff, *]
   ·rename_i c2
    refine ⟨_, rfl, ⟨λ h => (by cases h), λ h => ?_⟩⟩
    rw [h] at c2; simp at c2
  ·rename_i c1
   refine ⟨_, rfl, ⟨λ h => (by cases h), λ h => ?_⟩⟩
   rw [h] at c1; simp at c1
theorem ztL (a e : RT0) (ha : Jf a) (he : Jf e) : ∃ b, zj3 600 (a, e) = some b /\ (b = true ↔ a = e) := by
 obtain ⟨b, h1, h2⟩ := zo5 a e ha he
 simp only [zj3, FSpec.d, zj4, h1]
 have hae : a = e ↔ nmE a = nmE e /\ zt a = zt e := ⟨λ h => by rw [h]; exact ⟨rfl, rfl⟩, λ ⟨x, y⟩ => zqN x y⟩
 by_cases hn : nmE a = nmE e
 ·have ee := (congrArg (eqP (nmE a)) hn).symm.trans (JU (nmE a))
  simp only [eqP] at ee
  simp only [ee]
  exact ⟨b, rfl, by rw [h2, hae]; exact ⟨λ h => ⟨hn, h⟩, λ h => h.2⟩⟩
 ·have ee := zan hn
  simp only [eqP] at ee
  simp only [ee]
  exact ⟨_, rfl, by rw [hae]; simp [hn]⟩
theorem zoz (a e : RT0) (ha : Jf a) (he : Jf e) : ∃ b, zli 600 (a, e) = some b /\ (b = true ↔ a = e) := by
 obtain ⟨b, h1, h2⟩ := ztL a e ha he
 have hL : zf1 600 ([zu e], [zu a], 1, 0) = some (bif b then .inr () else .inl false) := by
  show (jD 600).b _ _ ((jD 600).L 599) some = _
  have e1 : decide ((0 : Int) < 1) = true := by decide
  have e3 : i64 (0 + 1) = 1 := by decide
  obtain ⟨Lf, hLf⟩ : ∃ Lf, Lf = (jD 600).L 599 := ⟨_, rfl⟩
  have hz : Lf ([zu e], [zu a], 1, 1) = some (.inr ()) := by
   rw [hLf]
   show (jD 600).b _ _ ((jD 600).L 598) some = _
   simp only [jD]
   have e2 : decide ((1 : Int) < 1) = false := by decide
   simp only [e2]
  rw [<- hLf]
  simp only [jD]
  simp only [e1, Int.le_refl, if_true, Int.toNat_zero, List.getElem?_cons_zero, jn, h1]
  cases b with
  | true => simp only [Bool.not_true, e3, hz]; rfl
  | false => simp only [Bool.not_false]; rfl
 refine ⟨b, ?_, h2⟩
 simp only [zli, FSpec.d, zr3, zwU, zsC, zpJ, zj2, List.length_cons, List.length_nil]
 have e0 : (((0 + 1 : Nat) : Int) != ((0 + 1 : Nat) : Int)) = false := by decide
 simp only [e0]
 have hL' : zf1 600 ([zu e], [zu a], ((0 + 1 : Nat) : Int), 0) = some (bif b then .inr () else .inl false) := hL
 simp only [hL']
 cases b <;> rfl
theorem EvN.pk {e : RT0} (h : EvN e) : Jf e := by
 obtain ⟨n, _, h⟩ := h
 exact h.pk
end
section
structure EvG (e : RT0) : Prop where
 rv : Jk 600 [zu e] = some true
 pv : zd0 600 [zu e] = some true
 pk : Jf e
theorem EvN.g {e : RT0} (h : EvN e) : EvG e := ⟨zsP h, zsO h, h.pk⟩
structure VG (T : Int) (n i : Nat) (v : RT7) : Prop where
 kd : Kd6 (kdV v)
 at0 : 0 <= atV v
 atT : atV v <= T
 by1 : (kdV v = 1 \/ kdV v = 2) -> byV v = nob
 by2 : ¬ (kdV v = 1 \/ kdV v = 2) -> Per (byV v)
 in1 : kdV v ≠ 5 -> inV v = 0
 in2 : kdV v = 5 -> 0 <= inV v /\ inV v < n /\ inV v ≠ i
 ev : EvG (evV v)
def Stp (u v : RT7) : Prop := atV u <= atV v /\ ztc (kdV v) (kdV u) = true /\ (jF (kdV v) = true -> evV u = evV v)
structure XG (T : Int) (n i m : Nat) (x : List RT7) : Prop where
 ne : x ≠ []
 hd : ∀ h : 0 < x.length, kdV x[0] = 1
 vs : ∀ k (h : k < x.length), VG T n i x[k]
 st : ∀ k (h : k + 1 < x.length), Stp x[k] x[k + 1]
 le : x.length <= m
structure CG (T : Int) (m e : Nat) (C : List (List RT7)) : Prop where
 xs : ∀ k (h : k < C.length), XG T C.length k m C[k]
 le : C.length <= e
theorem VG.mono {T T' : Int} {n n' i : Nat} {v : RT7} (h : VG T n i v) (hT : T <= T') (hn : n <= n') : VG T' n' i v :=
 ⟨h.kd, h.at0, Int.le_trans h.atT hT, h.by1, h.by2, h.in1, λ e => by have := h.in2 e; omega, h.ev⟩
theorem XG.mono {T T' : Int} {n n' i m m' : Nat} {x : List RT7} (h : XG T n i m x) (hT : T <= T') (hn : n <= n') (hm : m <= m') : XG T' n' i m' x :=
 ⟨h.ne, h.hd, λ k hk => (h.vs k hk).mono hT hn, h.st, Nat.le_trans h.le hm⟩
theorem CG.mono {T T' : Int} {m m' e e' : Nat} {C : List (List RT7)} (h : CG T m e C) (hT : T <= T') (hm : m <= m') (he : e <= e') : CG T' m' e' C :=
 ⟨λ k hk => (h.xs k hk).mono hT (Nat.le_refl _) hm, Nat.le_trans h.le he⟩
theorem XG.pos {T : Int} {n i m : Nat} {x : List RT7} (h : XG T n i m x) : 0 < x.length := List.length_pos_iff.2 h.ne
theorem XG.snoc {T T' : Int} {n i m : Nat} {x : List RT7} {v : RT7} (h : XG T n i m x) (hT : T <= T') (hv : VG T' n i v) (hs : Stp (x.getLast h.ne) v) : XG T' n i (m + 1) (x ++ [v]) := by
 have hp := h.pos
 refine ⟨by simp, λ _ => ?_, λ k hk => ?_, λ k hk => ?_, by have := h.le; simp; omega⟩
 ·rw [List.getElem_append_left hp]; exact h.hd hp
 ·rw [List.getElem_append]
  split
  ·exact (h.vs k _).mono hT (Nat.le_refl _)
  ·simpa using hv
 ·simp at hk
  by_cases hl : k + 1 < x.length
  ·rw [List.getElem_append_left hl, List.getElem_append_left (by omega)]
   exact h.st k hl
  ·have e : k = x.length - 1 := by omega
   subst e
   rw [List.getLast_eq_getElem] at hs
   rw [List.getElem_append_left (by omega), List.getElem_append_right (by omega)]
   simpa using hs
theorem XG.one {T : Int} {n i m : Nat} {v : RT7} (hm : 1 <= m) (hv : VG T n i v) (h1 : kdV v = 1) : XG T n i m [v] :=
 ⟨by simp, λ _ => h1, λ k hk => by simp at hk; subst hk; exact hv, λ k hk => by simp at hk, hm⟩
theorem CG.set {T T' : Int} {m e i : Nat} {C : List (List RT7)} (h : CG T m e C) (hi : i < C.length) (hT : T <= T') {v : RT7} (hv : VG T' C.length i v) (hs : Stp (C[i].getLast (h.xs i hi).ne) v) : CG T' (m + 1) e (C.set i (C[i] ++ [v])) := by
 refine ⟨λ k hk => ?_, by simpa using h.le⟩
 simp at hk
 rw [List.length_set, List.getElem_set]
 split
 ·rename_i he; subst he; exact (h.xs i hi).snoc hT hv hs
 ·exact (h.xs k hk).mono hT (Nat.le_refl _) (by omega)
theorem CG.nil (T : Int) (m e : Nat) : CG T m e [] := ⟨λ k h => by simp at h, Nat.zero_le _⟩
theorem zyw {T : Int} {n i : Nat} {v : RT7} (h : VG T n i v) (k : Int) (X : List (List AV)) : zb0 600 ((i : Int), (n : Int), k, X, v) = some (.inr ((i : Int), (n : Int), k, X, v)) := by
 obtain ⟨hk, h0, hT, hb1, hb2, hi1, hi2, he⟩ := h
 obtain ⟨k1, a1, b1, i1, e1⟩ := v
 show (ZG 600).b _ _ ((ZG 600).L 599) some = _
 simp only [ZG]
 simp only [kdV, byV] at hk hb1 hb2
 have en : ((nob).toList == (⟨#[]⟩ : ByteArray).toList) = true := by kernel_rfl
 rcases hk with rfl | rfl | rfl | rfl | rfl | rfl
 ·rw [hb1 (by omega)]
  have e1 : ((1 : Int) == 1) = true := by decide
  simp only [e1, en, Bool.not_true]
 ·rw [hb1 (by omega)]
  have e1 : ((2 : Int) == 1) = false := by decide
  have e2 : ((2 : Int) == 2) = true := by decide
  simp only [e1, e2, en, Bool.not_true]
 all_goals
  have hp := (zqY (hb2 (by omega))).1
  simp only [hp]
  rfl
theorem zfW {T : Int} {n i m : Nat} {x : List RT7} (hT : T <= 18014398509481984) (hn : n <= 10000) (hm : m <= 100) (h : XG T n i m x) (hi : i < n) : ∀ (d k f : Nat), k + d = x.length -> d < f -> (zF 600).L f ((i : Int), (n : Int), (k : Int), x.map zp) = some (.inr (x.map zp)) := by
 intro d
 induction d with
 | zero =>
  intro k f hk hf
  obtain ⟨f, rfl⟩ := pS hf
  show (zF 600).b _ _ ((zF 600).L f) some = _
  have e2 : decide ((k : Int) < (x.length : Int)) = false := dF (by omega)
  simp only [zF]
  simp only [List.length_map, e2]
 | succ d ih =>
  intro k f hk hf
  obtain ⟨f, rfl⟩ := pS hf
  have hkl : k < x.length := by omega
  have r1 := ih (k + 1) f (by omega) (by omega)
  show (zF 600).b _ _ ((zF 600).L f) some = _
  generalize (zF 600).L f = Lf at r1 |-
  have e2 : decide ((k : Int) < (x.length : Int)) = true := dT (by omega)
  have h0 : 0 <= (k : Int) := by omega
  have hle := h.le
  have hv := h.vs k hkl
  have c1 : decide (x[k].1 < 1) = false := by rw [decide_eq_false_iff_not]; have := hv.kd.lt; simp only [kdV] at this; omega
  have c2 : decide (x[k].1 > 6) = false := by rw [decide_eq_false_iff_not]; have := hv.kd.lt; simp only [kdV] at this; omega
  have c3 : decide (x[k].2.1 < 0) = false := by rw [decide_eq_false_iff_not]; have := hv.at0; simp only [atV] at this; omega
  have c4 : decide (x[k].2.1 > 18014398509481984) = false := by rw [decide_eq_false_iff_not]; have := hv.atT; simp only [atV] at this; omega
  have c5 : Jk 600 [zu (zm x[k])] = some true := hv.ev.rv
  have c6 := zyw hv (k : Int) (x.map zp)
  have c7 : ∀ (b : Bool), (b = true ↔ x[k].2.2.2.1 = 0) -> (x[k].2.2.2.1 != 0) = !b := λ b hb => by
   cases b
   ·simp; intro e; simpa using hb.2 e
   ·simp [hb.1 rfl]
  simp only [zF]
  simp only [List.length_map, e2, h0, if_true, Int.toNat_natCast, zcA x k hkl, rd7, c1, c2, c3, c4, c5, Bool.not_true, c6]
  by_cases k5 : x[k].1 = 5
  ·have d1 : (x[k].1 != 5) = false := by simp [k5]
   have d2 : (x[k].1 == 5) = true := by simp [k5]
   obtain ⟨p1, p2, p3⟩ := hv.in2 k5
   simp only [inV] at p1 p2 p3
   have d3 : decide (x[k].2.2.2.1 < 0) = false := dF (by omega)
   have d4 : decide (x[k].2.2.2.1 >= (n : Int)) = false := dF (by omega)
   have d5 : (x[k].2.2.2.1 == (i : Int)) = false := by simpa using p3
   simp only [d1, d2, d3, d4, d5]
   by_cases hk0 : k = 0
   ·exfalso
    subst hk0
    have := h.hd hkl
    simp only [kdV] at this
    omega
   ·have d6 : ((k : Int) == 0) = false := by simp [hk0]
    obtain ⟨k', rfl⟩ : ∃ k', k = k' + 1 := ⟨k - 1, by omega⟩
    obtain ⟨s1, s2, s3⟩ := h.st k' hkl
    have d7 : i64 (((k' + 1 : Nat) : Int) - 1) = (k' : Int) := by rw [zG (by omega)]; omega
    have d8 : decide (x[k' + 1].2.1 < x[k'].2.1) = false := by rw [decide_eq_false_iff_not]; simp only [atV] at s1; omega
    have d9 := ztd 600 x[k' + 1] x[k']
    have d10 := zfu 600 x[k' + 1].1
    have h0' : 0 <= (k' : Int) := by omega
    have n1 := zi (k := k' + 1) (by omega)
    rw [s2] at d9
    simp only [d6, d7, h0', if_true, Int.toNat_natCast, zcA x k' (by omega), rd7, d8, d9, Bool.not_true, d10, n1]
    cases hkp : jF x[k' + 1].1 with
    | false => exact r1
    | true =>
     have s4 := s3 hkp
     obtain ⟨b, q1, q2⟩ := zcJ (evV x[k']) (evV x[k' + 1]) (h.vs k' (by omega)).ev.pk hv.ev.pk
     rw [q2.2 s4] at q1
     replace q1 : zaH 600 (zm x[k'], zm x[k' + 1]) = some true := q1
     simp only [q1, Bool.not_true]
     exact r1
  ·have d1 : (x[k].1 != 5) = true := by simp [k5]
   have d2 : (x[k].1 == 5) = false := by simp [k5]
   have d3 : (x[k].2.2.2.1 != 0) = false := by have := hv.in1 k5; simp only [inV] at this; simp [this]
   simp only [d1, d2, d3]
   by_cases hk0 : k = 0
   ·subst hk0
    have d6 : (((0 : Nat) : Int) == 0) = true := by decide
    have d7 : (x[0].1 != 1) = false := by have := h.hd hkl; simp only [kdV] at this; simp [this]
    have n1 := zi (k := 0) (by omega)
    simp only [d6, d7, n1]
    exact r1
   ·have d6 : ((k : Int) == 0) = false := by simp [hk0]
    obtain ⟨k', rfl⟩ : ∃ k', k = k' + 1 := ⟨k - 1, by omega⟩
    obtain ⟨s1, s2, s3⟩ := h.st k' hkl
    have d7 : i64 (((k' + 1 : Nat) : Int) - 1) = (k' : Int) := by rw [zG (by omega)]; omega
    have d8 : decide (x[k' + 1].2.1 < x[k'].2.1) = false := by rw [decide_eq_false_iff_not]; simp only [atV] at s1; omega
    have d9 := ztd 600 x[k' + 1] x[k']
    have d10 := zfu 600 x[k' + 1].1
    have h0' : 0 <= (k' : Int) := by omega
    have n1 := zi (k := k' + 1) (by omega)
    rw [s2] at d9
    simp only [d6, d7, h0', if_true, Int.toNat_natCast, zcA x k' (by omega), rd7, d8, d9, Bool.not_true, d10, n1]
    cases hkp : jF x[k' + 1].1 with
    | false => exact r1
    | true =>
     have s4 := s3 hkp
     obtain ⟨b, q1, q2⟩ := zcJ (evV x[k']) (evV x[k' + 1]) (h.vs k' (by omega)).ev.pk hv.ev.pk
     rw [q2.2 s4] at q1
     replace q1 : zaH 600 (zm x[k'], zm x[k' + 1]) = some true := q1
     simp only [q1, Bool.not_true]
     exact r1
end
section
theorem rd6 (x : List RT7) : ze2 (zph x) = some (x.map zp, ()) := zg1 x
theorem zpA {T : Int} {n i m : Nat} {x : List RT7} (hT : T <= 18014398509481984) (hn : n <= 10000) (hm : m <= 100) (h : XG T n i m x) (hi : i < n) : zlk 600 (x.map zp, (i : Int), (n : Int)) = some true := by
 have h1 : (zF 600).L 600 ((i : Int), (n : Int), 0, x.map zp) = some (.inr (x.map zp)) := zfW hT hn hm h hi x.length 0 600 (by omega) (by have := h.le; omega)
 have hp := h.pos
 have hl := h.le
 simp only [zlk, FSpec.d, znP, zll, h1, List.length_map]
 have e1 : decide ((x.length : Int) >= 1) = true := dT (by omega)
 have e2 : decide ((x.length : Int) <= 100) = true := dT (by omega)
 simp only [e1, e2]
theorem zi2 {T : Int} {m e : Nat} {C : List (List RT7)} (hT : T <= 18014398509481984) (he : e <= 500) (hm : m <= 100) (h : CG T m e C) : ∀ (d k f : Nat), k + d = C.length -> d < f -> (Zl 600).L f ((k : Int), zh C) = some (.inr (zh C)) := by
 intro d
 induction d with
 | zero =>
  intro k f hk hf
  obtain ⟨f, rfl⟩ := pS hf
  show (Zl 600).b _ _ ((Zl 600).L f) some = _
  have e2 : decide ((k : Int) < (C.length : Int)) = false := dF (by omega)
  simp only [Zl]
  simp only [zq, e2]
 | succ d ih =>
  intro k f hk hf
  obtain ⟨f, rfl⟩ := pS hf
  have hkl : k < C.length := by omega
  have r1 := ih (k + 1) f (by omega) (by omega)
  show (Zl 600).b _ _ ((Zl 600).L f) some = _
  generalize (Zl 600).L f = Lf at r1 |-
  have e2 : decide ((k : Int) < (C.length : Int)) = true := dT (by omega)
  have h0 : 0 <= (k : Int) := by omega
  have hle := h.le
  have v1 := zpA hT (by omega) hm (h.xs k hkl) hkl
  simp only [Zl]
  simp only [zq, e2, h0, if_true, Int.toNat_natCast, zI C k hkl, rd6, v1, Bool.not_true, zi (show k < 1000000 by omega)]
  exact r1
theorem zlY {T : Int} {m e : Nat} {C : List (List RT7)} (hT : T <= 18014398509481984) (he : e <= 500) (hm : m <= 100) (h : CG T m e C) : ziP 600 (zh C) = some true := by
 have hle := h.le
 have h1 : (Zl 600).L 600 (0, zh C) = some (.inr (zh C)) := zi2 hT he hm h C.length 0 600 (by omega) (by omega)
 simp only [ziP, FSpec.d, znA, zkI, h1, zq]
 have e2 : decide ((C.length : Int) <= 500) = true := dT (by omega)
 simp only [e2]
theorem zbi (x : List RT7) (h : x ≠ []) (hl : x.length <= 1000) : zgf 600 (x.map zp) = some (x.getLast h) := by
 have hp := List.length_pos_iff.2 h
 have e1 : i64 ((x.length : Int) - 1) = ((x.length - 1 : Nat) : Int) := by rw [zG (by omega)]; omega
 have h0 : 0 <= ((x.length - 1 : Nat) : Int) := by omega
 simp only [zgf, FSpec.d, zsc, List.length_map, e1, h0, if_true, Int.toNat_natCast, zcA x (x.length - 1) (by omega), rd7]
 rw [List.getLast_eq_getElem]
theorem zxK (x : List RT7) (h : x ≠ []) (hl : x.length <= 1000) : zlh 600 (x.map zp) = some (x.getLast h) := zbi x h hl
theorem XG.last {T : Int} {n i m : Nat} {x : List RT7} (h : XG T n i m x) : VG T n i (x.getLast h.ne) := by
 rw [List.getLast_eq_getElem]
 exact h.vs _ _
theorem zgO {T : Int} {m e : Nat} {C : List (List RT7)} {now : Int} (hT : T <= now) (he : e <= 500) (hm : m <= 100) (h : CG T m e C) : ∀ (d k f : Nat), k + d = C.length -> d < f -> (Zm 600).L f (now, (k : Int), zh C) = some (.inr ()) := by
 intro d
 induction d with
 | zero =>
  intro k f hk hf
  obtain ⟨f, rfl⟩ := pS hf
  show (Zm 600).b _ _ ((Zm 600).L f) some = _
  have e2 : decide ((k : Int) < (C.length : Int)) = false := dF (by omega)
  simp only [Zm]
  simp only [zq, e2]
 | succ d ih =>
  intro k f hk hf
  obtain ⟨f, rfl⟩ := pS hf
  have hkl : k < C.length := by omega
  have r1 := ih (k + 1) f (by omega) (by omega)
  show (Zm 600).b _ _ ((Zm 600).L f) some = _
  generalize (Zm 600).L f = Lf at r1 |-
  have e2 : decide ((k : Int) < (C.length : Int)) = true := dT (by omega)
  have h0 : 0 <= (k : Int) := by omega
  have hle := h.le
  have hx := h.xs k hkl
  have v1 := zbi C[k] hx.ne (by have := hx.le; omega)
  have v2 : decide ((C[k].getLast hx.ne).2.1 > now) = false := by rw [decide_eq_false_iff_not]; have := hx.last.atT; simp only [atV] at this; omega
  simp only [Zm]
  simp only [zq, e2, h0, if_true, Int.toNat_natCast, zI C k hkl, rd6, v1, v2, zi (show k < 1000000 by omega)]
  exact r1
theorem zh9 {T : Int} {m e : Nat} {C : List (List RT7)} {now : Int} (hT : T <= now) (he : e <= 500) (hm : m <= 100) (h : CG T m e C) : ziZ 600 (zh C, now) = some true := by
 have hle := h.le
 have h1 : (Zm 600).L 600 (now, 0, zh C) = some (.inr ()) := zgO hT he hm h C.length 0 600 (by omega) (by omega)
 simp only [ziZ, FSpec.d, znR, zlo, h1]
def FC (D : List (List RT7)) (k : Nat) (cs : List AV) : Prop := cs.length = D.length /\ ∀ i (h : i < D.length), ∃ t, cs[i]? = some (AV.list 29 (D[i].map zp) t) /\ (t = none \/ t = some (TOB + i)) /\ (k <= i -> t = some (TOB + i))
theorem FC.nil : FC [] 0 [] := ⟨rfl, λ i h => by simp at h⟩
theorem FC.to {D : List (List RT7)} {k l : Nat} {cs : List AV} (h : FC D k cs) (hl : k <= l) : FC D l cs :=
 ⟨h.1, λ i hi => by obtain ⟨t, h1, h2, h3⟩ := h.2 i hi; exact ⟨t, h1, h2, λ e => h3 (by omega)⟩⟩
theorem FC.mp {D : List (List RT7)} {k : Nat} {cs : List AV} (h : FC D k cs) (g : AV -> AV) (hg : ∀ i xs t, i < D.length -> t = none \/ t = some (TOB + i) -> g (AV.list 29 xs t) = AV.list 29 xs t) : cs.map g = cs := by
 refine List.ext_getElem (by simp) λ i h1 h2 => ?_
 have hi : i < D.length := by rw [<- h.1]; exact h2
 obtain ⟨t, e1, e2, _⟩ := h.2 i hi
 rw [List.getElem?_eq_getElem h2] at e1
 rw [List.getElem_map, Option.some.inj e1, hg i _ t hi e2]
theorem FC.dF {D : List (List RT7)} {k : Nat} {cs : List AV} (h : FC D k cs) : cs.map datF = cs := h.mp datF λ i xs t _ ht => by
 rcases ht with rfl | rfl
 ·rfl
 ·have : Nat.ble TOB (TOB + i) = true := Nat.ble_eq_true_of_le (by omega)
  simp only [datF, this, cond_true]
theorem FC.dJ {D : List (List RT7)} {k : Nat} {cs : List AV} (h : FC D k cs) : cs.map (datJ 0 D.length) = cs := h.mp _ λ i xs t hi ht => by
 rcases ht with rfl | rfl
 ·rfl
 ·have : Nat.ble (TOB + 0) (TOB + i) = true := Nat.ble_eq_true_of_le (by omega)
  have h2 : Nat.ble (TOB + D.length) (TOB + i) = false := by
   cases hb : Nat.ble (TOB + D.length) (TOB + i) with
   | false => rfl
   | true => have := Nat.le_of_ble_eq_true hb; omega
  simp only [datJ, this, h2, Bool.not_false, Bool.and_self, cond_true]
def zal (D : List (List RT7)) : List AV := D.map λ x => AV.list 29 (x.map zp) none
theorem zeh (D : List (List RT7)) : (zal D).length = D.length := by simp [zal]
theorem FC.d0 {D : List (List RT7)} {k : Nat} {cs : List AV} (h : FC D k cs) : cs.map dat0 = zal D := by
 refine List.ext_getElem (by simp [zal, h.1]) λ i h1 h2 => ?_
 have hi : i < D.length := by simpa [zal] using h2
 have h3 : i < cs.length := by rw [h.1]; exact hi
 obtain ⟨t, e1, e2, _⟩ := h.2 i hi
 rw [List.getElem?_eq_getElem h3] at e1
 rw [List.getElem_map, Option.some.inj e1]
 simp only [zal, List.getElem_map]
 rcases e2 with rfl | rfl <;> rfl
theorem zam (D : List (List RT7)) : (zal D).map dat0 = zal D := by
 simp only [zal, List.map_map]; rfl
theorem zol (C D : List (List RT7)) : zal C ++ zal D = zal (C ++ D) := by simp [zal]
theorem zcp : ∀ (D : List (List RT7)), zo (zal D) 1 D.length = zh D
 | [] => rfl
 | x :: D => by
  show _ :: _ = _ :: _
  congr 1
  exact zcp D
theorem zje (D : List (List RT7)) : zo ((zal D).take (D.length * 1)) 1 D.length = zh D := by
 rw [Nat.mul_one, List.take_of_length_le (by simp [zal]), zcp]
theorem FC.set {D : List (List RT7)} {k : Nat} {cs : List AV} (h : FC D k cs) (hk : k < D.length) (y : List RT7) {q : Nat} (hq : q < TOB) : FC (D.set k y) (k + 1) ((splice cs k [AV.list 29 (y.map zp) (some q)]).map datF) := by
 refine ⟨by simp [splice, h.1], λ i hi => ?_⟩
 simp at hi
 have h3 : i < cs.length := by rw [h.1]; exact hi
 obtain ⟨t, e1, e2, e3⟩ := h.2 i hi
 rw [List.getElem?_eq_getElem h3] at e1
 by_cases e : k = i
 ·subst e
  refine ⟨none, ?_, .inl rfl, λ e => by omega⟩
  have : Nat.ble TOB q = false := by
   cases hb : Nat.ble TOB q with
   | false => rfl
   | true => have := Nat.le_of_ble_eq_true hb; omega
  show ((cs.set k _).map _)[k]? = _
  rw [List.getElem?_map, List.getElem?_set_self h3, List.getElem_set_self]
  simp only [Option.map, datF, this, cond_false]
 ·refine ⟨t, ?_, e2, λ e' => e3 (by omega)⟩
  show ((cs.set k _).map _)[i]? = _
  rw [List.getElem?_map, List.getElem?_set_ne e, List.getElem?_eq_getElem h3, List.getElem_set_ne e, Option.some.inj e1]
  rcases e2 with rfl | rfl
  ·rfl
  ·have : Nat.ble TOB (TOB + i) = true := Nat.ble_eq_true_of_le (by omega)
   simp only [Option.map, datF, this, cond_true]
theorem FC.snoc {D : List (List RT7)} {cs : List AV} (h : FC D 0 cs) (y : List RT7) : FC (D ++ [y]) 0 ((cs.take (D.length * 1) ++ [AV.list 29 (y.map zp) (some (TOB + D.length))]).map datF) := by
 rw [Nat.mul_one, <- h.1, List.take_length, List.map_append, h.dF]
 have hb : Nat.ble TOB (TOB + cs.length) = true := Nat.ble_eq_true_of_le (by omega)
 simp only [List.map, datF, hb, cond_true]
 refine ⟨by simp [h.1], λ i hi => ?_⟩
 simp at hi
 by_cases e : i < D.length
 ·obtain ⟨t, e1, e2, e3⟩ := h.2 i e
  refine ⟨t, ?_, e2, e3⟩
  rw [List.getElem?_append_left (by rw [h.1]; exact e), e1, List.getElem_append_left e]
 ·obtain rfl : i = D.length := by omega
  refine ⟨some (TOB + D.length), ?_, .inr rfl, λ _ => rfl⟩
  rw [List.getElem?_append_right (by rw [h.1]; omega), List.getElem_append_right (by omega)]
  simp [h.1]
theorem zmg {m e : Nat} {C : List (List RT7)} (he : C.length <= 500) (hm : ∀ x ∈ C, x.length <= 1000) (X : List (List AV)) : ∀ (d k f : Nat) (cs : List AV), k + d = C.length -> d < f -> FC (C.take k) 0 cs -> ∃ cs', (Za 600).L f ((k : Int), zh C, X, k, cs, 0, k) = some (X, C.length, cs', 0, C.length) /\ FC C 0 cs' := by
 intro d
 induction d with
 | zero =>
  intro k f cs hk hf hc
  obtain ⟨f, rfl⟩ := pS hf
  obtain rfl : k = C.length := by omega
  rw [List.take_length] at hc
  refine ⟨cs, ?_, hc⟩
  show (Za 600).b _ _ ((Za 600).L f) some = _
  have e2 : decide ((C.length : Int) < (C.length : Int)) = false := dF (by omega)
  simp only [Za]
  simp only [zq, e2, hc.dF]
 | succ d ih =>
  intro k f cs hk hf hc
  obtain ⟨f, rfl⟩ := pS hf
  have hkl : k < C.length := by omega
  have hn := hc.snoc C[k]
  have hlk : (C.take k).length = k := by simp; omega
  rw [hlk, List.take_append_getElem] at hn
  obtain ⟨cs', r1, r2⟩ := ih (k + 1) f _ (by omega) (by omega) hn
  refine ⟨cs', ?_, r2⟩
  show (Za 600).b _ _ ((Za 600).L f) some = _
  generalize (Za 600).L f = Lf at r1 |-
  have e2 : decide ((k : Int) < (C.length : Int)) = true := dT (by omega)
  have h0 : 0 <= (k : Int) := by omega
  have hx := hm C[k] (List.getElem_mem _)
  have b1 : ((([] : List (List AV)).length + (C[k].map zp).length) * 288 <= ze) = True := by unfold ze; simp; omega
  have b2 : ((True /\ 0 <= k) /\ k * 1 <= cs.length /\ (k + 1) * 24 <= ze) = True := by rw [hc.1, hlk]; unfold ze; simp; omega
  simp only [Za]
  simp only [zq, e2, h0, if_true, Int.toNat_natCast, zI C k hkl, zfI, zjr, b1, b2, List.nil_append, zi (show k < 1000000 by omega)]
  exact r1
theorem zmh {C : List (List RT7)} (he : C.length <= 500) (hm : ∀ x ∈ C, x.length <= 1000) : ∃ cs, zbV 600 (zh C) = some (C.length, cs, 0, C.length) /\ FC C 0 cs := by
 obtain ⟨cs, h1, h2⟩ := zmg (m := 0) (e := 0) he hm [] C.length 0 600 [] (by omega) (by omega) (by simpa using FC.nil)
 refine ⟨cs, ?_, h2⟩
 replace h1 : (Za 600).L 600 (0, zh C, [], 0, [], 0, 0) = some ([], C.length, cs, 0, C.length) := h1
 simp only [zbV, FSpec.d, zhr, zgc, h1, h2.dF]
theorem CG.small {T : Int} {m e : Nat} {C : List (List RT7)} (h : CG T m e C) (hm : m <= 1000) : ∀ x ∈ C, x.length <= 1000 := λ x hx => by
 obtain ⟨k, hk, rfl⟩ := List.getElem_of_mem hx
 exact Nat.le_trans (h.xs k hk).le hm
end
section
theorem zaO : ∀ (D : List (List RT7)) (cs : List AV), cs.map dat0 = zal D -> zo cs 1 D.length = zh D
 | [], _, _ => rfl
 | x :: D, [], h => by cases h
 | x :: D, c :: cs, h => by
  have h' : dat0 c :: cs.map dat0 = AV.list 29 (x.map zp) none :: zal D := h
  injection h' with h1 h2
  show [dat0 c] :: zo cs 1 D.length = zph x :: zh D
  rw [h1, zaO D cs h2]; rfl
theorem FC.sp {D : List (List RT7)} {k : Nat} {cs : List AV} (h : FC D k cs) (i : Nat) (y : List RT7) (q : Nat) : (splice cs i [AV.list 29 (y.map zp) (some q)]).map dat0 = zal (D.set i y) := by
 show (cs.set i _).map dat0 = _
 rw [List.map_set, h.d0]
 simp only [zal, List.map_set]
 rfl
theorem FC.csp {D : List (List RT7)} {k : Nat} {cs : List AV} (h : FC D k cs) (i : Nat) (y : List RT7) (q : Nat) : zo ((splice cs i [AV.list 29 (y.map zp) (some q)]).take (D.length * 1)) 1 D.length = zh (D.set i y) := by
 rw [Nat.mul_one, List.take_of_length_le (by rw [zA, h.1]; exact Nat.le_refl _)]
 have := zaO (D.set i y) _ (h.sp i y q)
 rw [List.length_set] at this
 exact this
def zhG (k t : Int) (b : ByteArray) (to : Int) (e1 last : RT0) : RT7 := (k, t, b, to, if jF k = true then last else e1)
structure Say (k : Int) (b : ByteArray) (to : Int) (e1 : RT0) : Prop where
 kd : k = 3 \/ k = 4 \/ k = 5 \/ k = 6
 per : Per b
 ev : k = 3 -> EvG e1
 to0 : k ≠ 5 -> to = 0
 to1 : 0 <= to
theorem Say.vg {k : Int} {b : ByteArray} {to : Int} {e1 : RT0} (h : Say k b to e1) {T t : Int} {n i m : Nat} {x : List RT7} (hx : XG T n i m x) (hT : T <= t) (hl : to < n) (hs : k = 5 -> to ≠ i) : VG t n i (zhG k t b to e1 (evV (x.getLast hx.ne))) := by
 have hL := hx.last
 obtain ⟨hk, hp, he, h0, h1⟩ := h
 refine ⟨by unfold Kd6 kdV zhG; dsimp only; omega, Int.le_trans hL.at0 (Int.le_trans hL.atT hT), Int.le_refl _, λ h => by simp only [zhG, kdV] at h; omega, λ _ => hp, h0, λ h => ⟨h1, hl, hs h⟩, ?_⟩
 show EvG (if jF k = true then _ else _)
 rcases hk with rfl | rfl | rfl | rfl
 ·rw [if_neg (by decide)]; exact he rfl
 ·rw [if_pos (by decide)]; exact hL.ev
 ·rw [if_pos (by decide)]; exact hL.ev
 ·rw [if_pos (by decide)]; exact hL.ev
theorem Say.stp {k : Int} {b : ByteArray} {to : Int} {e1 : RT0} (h : Say k b to e1) {T t : Int} {n i m : Nat} {x : List RT7} (hx : XG T n i m x) (hT : T <= t) (ho : k = 6 -> jR (kdV (x.getLast hx.ne)) = false) : Stp (x.getLast hx.ne) (zhG k t b to e1 (evV (x.getLast hx.ne))) := by
 have hL := hx.last
 obtain ⟨hk, hp, he, h0, h1⟩ := h
 refine ⟨Int.le_trans hL.atT hT, ?_, λ h => ?_⟩
 ·show ztc k _ = true
  rcases hk with rfl | rfl | rfl | rfl
  ·rfl
  ·rfl
  ·rfl
  ·show (!(jR _)) = true
   rw [ho rfl]; rfl
 ·replace h : jF k = true := h
  show _ = (if jF k = true then _ else _)
  rw [if_pos h]
theorem zn6 {T t : Int} {m e : Nat} {C : List (List RT7)} (hC : CG T m e C) (he : e <= 500) (hm : m < 100) (hT : T <= t) (ht0 : 0 <= t) (ht : t <= 18014398509481984) {k : Int} {b : ByteArray} {to : Int} {e1 : RT0} (hs : Say k b to e1) (id : Nat) : ∃ d y, Z4 600 (zh C, (id : Int), (k, t, b, to, e1)) = some (d, y) /\ (y = 0 -> ∃ C', d = zh C' /\ CG t (m + 1) e C') := by
 have hle := hC.le
 have hV := zlY (by omega) he (by omega) hC
 have hP := (zqY hs.per).1
 have hL := zh9 hT he (by omega) hC
 have h2 : zeX 600 ((id : Int), zh C, (k, t, b, to, e1), []) = some (.inr ((id : Int), zh C, (k, t, b, to, e1), [])) := by
  show (jK 600).b _ _ ((jK 600).L 599) some = _
  simp only [jK]
  simp only [hV, hP, Bool.not_true]
  by_cases k3 : k = 3
  ·have c1 : (k == 3) = true := by simp [k3]
   have c2 : Jk 600 [zu (zm (k, t, b, to, e1))] = some true := (hs.ev k3).rv
   simp only [c1, c2, Bool.not_true]
  ·have c1 : (k == 3) = false := by simp [k3]
   simp only [c1]
 simp only [Z4, FSpec.d, znJ, h2, zq]
 have n1 : decide ((id : Int) < 0) = false := dF (by omega)
 simp only [n1]
 by_cases c1 : id < C.length
 case neg =>
  have n2 : decide ((id : Int) >= (C.length : Int)) = true := dT (by omega)
  simp only [n2]
  exact ⟨_, _, rfl, λ h => by cases h⟩
 have n2 : decide ((id : Int) >= (C.length : Int)) = false := dF (by omega)
 have n3 : decide (to < 0) = false := by rw [decide_eq_false_iff_not]; have := hs.to1; omega
 simp only [n2, n3]
 by_cases c2 : to < C.length
 case neg =>
  have n4 : decide (to >= (C.length : Int)) = true := dT (by omega)
  simp only [n4]
  exact ⟨_, _, rfl, λ h => by cases h⟩
 have n4 : decide (to >= (C.length : Int)) = false := dF (by omega)
 have n5 : decide (t < 0) = false := dF (by omega)
 have n6 : decide (t > 18014398509481984) = false := dF (by omega)
 have h0 : 0 <= (id : Int) := by omega
 have hx := hC.xs id c1
 have hxl := hx.le
 have hla := zbi C[id] hx.ne (by omega)
 simp only [n4, n5, n6, hL, Bool.not_true, h0, if_true, Int.toNat_natCast, zI C id c1, rd6, hla]
 obtain ⟨L, hLd⟩ : ∃ L, L = C[id].getLast hx.ne := ⟨_, rfl⟩
 rw [<- hLd]
 have hop := zih 600 L
 have h19 : (JY 600 ((id : Int), zh C, (k, t, b, to, e1), [], L) = some (.inl ((id : Int), 10, zh C, (k, t, b, to, e1), [], L))) \/ ((k = 5 -> to ≠ (id : Int)) /\ (k = 6 -> jR (kdV L) = false) /\ JY 600 ((id : Int), zh C, (k, t, b, to, e1), [], L) = some (.inr ((id : Int), zh C, (k, t, b, to, e1), [], L))) := by
  have hu : ∀ y, (Zx 600).b ((id : Int), zh C, (k, t, b, to, e1), [], L) _ ((Zx 600).L 599) some = y -> JY 600 ((id : Int), zh C, (k, t, b, to, e1), [], L) = y := λ y h => h
  rcases hs.kd with rfl | rfl | rfl | rfl
  ·exact .inr ⟨λ h => (by cases h), λ h => (by cases h), hu _ (by kernel_rfl)⟩
  ·exact .inr ⟨λ h => (by cases h), λ h => (by cases h), hu _ (by kernel_rfl)⟩
  ·by_cases c3 : to = (id : Int)
   ·refine .inl (hu _ ?_)
    have c4 : (to == (id : Int)) = true := by simp [c3]
    have c5 : ((5 : Int) == 5) = true := by decide
    simp only [Zx]
    simp only [c4, c5]
   ·refine .inr ⟨λ _ => c3, λ h => (by cases h), hu _ ?_⟩
    have c4 : (to == (id : Int)) = false := by simp [c3]
    have c5 : ((5 : Int) == 5) = true := by decide
    have c6 : ((5 : Int) == 6) = false := by decide
    simp only [Zx]
    simp only [c4, c5, c6]
  ·have c5 : ((6 : Int) == 5) = false := by decide
   have c6 : ((6 : Int) == 6) = true := by decide
   cases ho : jR (kdV L) with
   | true =>
    refine .inl (hu _ ?_)
    rw [ho] at hop
    simp only [Zx]
    simp only [c5, c6, hop]
   | false =>
    refine .inr ⟨λ h => (by cases h), λ _ => rfl, hu _ ?_⟩
    rw [ho] at hop
    simp only [Zx]
    simp only [c5, c6, hop]
 rcases h19 with h19 | ⟨g1, g2, h19⟩
 ·simp only [h19]
  exact ⟨_, _, rfl, λ h => by cases h⟩
 have hv := hs.vg hx hT c2 g1
 have hst := hs.stp hx hT (by rw [<- hLd]; exact g2)
 rw [<- hLd] at hv hst
 have hn := hC.set c1 hT hv (by rw [<- hLd]; exact hst)
 have m1 : (((C[id].map zp).length : Int) == 100) = false := by simp; omega
 have hkp := zfu 600 k
 obtain ⟨cs, q1, q2⟩ := zmh (C := C) (by omega) (hC.small (by omega))
 obtain ⟨tk, q3, _, q4⟩ := q2.2 id c1
 rw [q4 (Nat.zero_le _)] at q3
 have hI : (id : Int) < (C.length : Int) := by omega
 have b1 : ((C[id].map zp).length + [zp (zhG k t b to e1 (evV L))].length) * 288 <= ze := by unfold ze; simp; omega
 have b2 : id + 1 <= cs.length := by rw [q2.1]; exact c1
 have b3 : ∀ q, C.length * 1 <= (splice cs id q).length := λ q => by rw [zA, q2.1]; omega
 have hr : (C[id].map zp) ++ [zp (zhG k t b to e1 (evV L))] = (C[id] ++ [zhG k t b to e1 (evV L)]).map zp := by simp
 have hch := q2.csp id (C[id] ++ [zhG k t b to e1 (evV L)]) 7872
 simp only [h19, h0, if_true, Int.toNat_natCast, zI C id c1, zfI, zjr, m1, hkp, q1]
 unfold zhG at b1 hr hch hn
 rw [Nat.mul_one] at hch
 have b3' : ∀ q, C.length <= (splice cs id q).length := λ q => by have := b3 q; omega
 cases hkk : jF k with
 | true =>
  simp only [hkk, if_true] at b1 hr hch hn
  simp only [hI, h0, q2.dJ, Nat.zero_add, Nat.mul_one, Nat.add_zero, q3, c1, and_self, if_true, Nat.zero_le, b2]
  rw [if_pos b1, if_pos (b3' _)]
  refine ⟨_, _, rfl, λ _ => ⟨_, ?_, hn⟩⟩
  rw [<- hch, <- hr]
 | false =>
  simp only [hkk, Bool.false_eq_true, if_false] at b1 hr hch hn
  simp only [hI, h0, q2.dJ, Nat.zero_add, Nat.mul_one, Nat.add_zero, q3, c1, and_self, if_true, Nat.zero_le, b2]
  rw [if_pos b1, if_pos (b3' _)]
  refine ⟨_, _, rfl, λ _ => ⟨_, ?_, hn⟩⟩
  rw [<- hch, <- hr]
theorem zpe {T t : Int} {m e : Nat} {C : List (List RT7)} (hC : CG T m e C) (he : e <= 500) (hm : m < 100) (hT : T <= t) (ht0 : 0 <= t) (ht : t <= 18014398509481984) {b : ByteArray} {x : RT0} (hb : Per b) (hx : EvG x) (id : Nat) : ∃ d y, zko 600 (zh C, (id : Int), b, x, t) = some (d, y) /\ (y = 0 -> ∃ C', d = zh C' /\ CG t (m + 1) e C') := by
 obtain ⟨d, y, h1, h2⟩ := zn6 hC he hm hT ht0 ht (k := 3) (b := b) (to := 0) (e1 := x) ⟨.inl rfl, hb, λ _ => hx, λ _ => rfl, Int.le_refl _⟩ id
 refine ⟨d, y, ?_, h2⟩
 show (match Z4 600 (zh C, (id : Int), (3, t, b, 0, x)) with | some y1 => some y1 | none => none) = _
 rw [h1]
@[reducible] def zE : RT0 := ((⟨#[]⟩ : ByteArray), (⟨#[]⟩ : ByteArray), (⟨#[]⟩ : ByteArray), (⟨#[]⟩ : ByteArray), 0, 0, 0, 0, 0, ([] : List (List AV)), 0, 0, 0, 0, 0, 0, 0, 0, 0, 0, 0, 0, 0, 0, 0, ())
theorem zow {T t : Int} {m e : Nat} {C : List (List RT7)} (hC : CG T m e C) (he : e <= 500) (hm : m < 100) (hT : T <= t) (ht0 : 0 <= t) (ht : t <= 18014398509481984) {b : ByteArray} (hb : Per b) (id : Nat) : ∃ d y, zkp 600 (zh C, (id : Int), b, t) = some (d, y) /\ (y = 0 -> ∃ C', d = zh C' /\ CG t (m + 1) e C') := by
 obtain ⟨d, y, h1, h2⟩ := zn6 hC he hm hT ht0 ht (k := 4) (b := b) (to := 0) (e1 := zE) ⟨.inr (.inl rfl), hb, λ h => (by cases h), λ _ => rfl, Int.le_refl _⟩ id
 refine ⟨d, y, ?_, h2⟩
 show (match Z4 600 (zh C, (id : Int), (4, t, b, 0, zE)) with | some y1 => some y1 | none => none) = _
 rw [h1]
theorem zto {T t : Int} {m e : Nat} {C : List (List RT7)} (hC : CG T m e C) (he : e <= 500) (hm : m < 100) (hT : T <= t) (ht0 : 0 <= t) (ht : t <= 18014398509481984) {b : ByteArray} (hb : Per b) (id to : Nat) : ∃ d y, zkq 600 (zh C, (id : Int), (to : Int), b, t) = some (d, y) /\ (y = 0 -> ∃ C', d = zh C' /\ CG t (m + 1) e C') := by
 obtain ⟨d, y, h1, h2⟩ := zn6 hC he hm hT ht0 ht (k := 5) (b := b) (to := (to : Int)) (e1 := zE) ⟨.inr (.inr (.inl rfl)), hb, λ h => (by cases h), λ h => absurd rfl h, by omega⟩ id
 refine ⟨d, y, ?_, h2⟩
 show (match Z4 600 (zh C, (id : Int), (5, t, b, (to : Int), zE)) with | some y1 => some y1 | none => none) = _
 rw [h1]
theorem zmW {T t : Int} {m e : Nat} {C : List (List RT7)} (hC : CG T m e C) (he : e <= 500) (hm : m < 100) (hT : T <= t) (ht0 : 0 <= t) (ht : t <= 18014398509481984) {b : ByteArray} (hb : Per b) (id : Nat) : ∃ d y, zkr 600 (zh C, (id : Int), b, t) = some (d, y) /\ (y = 0 -> ∃ C', d = zh C' /\ CG t (m + 1) e C') := by
 obtain ⟨d, y, h1, h2⟩ := zn6 hC he hm hT ht0 ht (k := 6) (b := b) (to := 0) (e1 := zE) ⟨.inr (.inr (.inr rfl)), hb, λ h => (by cases h), λ _ => rfl, Int.le_refl _⟩ id
 refine ⟨d, y, ?_, h2⟩
 show (match Z4 600 (zh C, (id : Int), (6, t, b, 0, zE)) with | some y1 => some y1 | none => none) = _
 rw [h1]
end
section
def ixD (A : List RT0) (nm : RT1) : Nat -> Int -> Prop := λ k y => (y = -1 /\ ∀ j (h : j < A.length), k <= j -> nmE A[j] ≠ nm) \/ ∃ j : Nat, y = (j : Int) /\ ∃ h : j < A.length, k <= j /\ nmE A[j] = nm /\ ∀ i (hi : i < A.length), k <= i -> i < j -> nmE A[i] ≠ nm
theorem zft (A : List RT0) (nm : RT1) (hA : A.length <= 500) : ∀ (d k f : Nat), k + d = A.length -> d < f -> ∃ y, (jk 600).L f (A.map zu, (k : Int), nm) = some y /\ ∃ z, ixD A nm k z /\ ((z = -1 /\ y = .inr ()) \/ (0 <= z /\ y = .inl z)) := by
 intro d
 induction d with
 | zero =>
  intro k f hk hf
  obtain ⟨f, rfl⟩ := pS hf
  refine ⟨_, ?_, -1, .inl ⟨rfl, λ j h h' => by omega⟩, .inl ⟨rfl, rfl⟩⟩
  show (jk 600).b _ _ ((jk 600).L f) some = _
  have e2 : decide ((k : Int) < (A.length : Int)) = false := dF (by omega)
  simp only [jk]
  simp only [List.length_map, e2]
 | succ d ih =>
  intro k f hk hf
  obtain ⟨f, rfl⟩ := pS hf
  have hkl : k < A.length := by omega
  have e2 : decide ((k : Int) < (A.length : Int)) = true := dT (by omega)
  have h0 : 0 <= (k : Int) := by omega
  by_cases hc : nmE A[k] = nm
  ·refine ⟨_, ?_, (k : Int), .inr ⟨k, rfl, hkl, Nat.le_refl _, hc, λ i hi h1 h2 => by omega⟩, .inr ⟨h0, rfl⟩⟩
   show (jk 600).b _ _ ((jk 600).L f) some = _
   have ee := (congrArg (eqP (nmE A[k])) hc).symm.trans (JU (nmE A[k]))
   simp only [eqP] at ee
   simp only [jk]
   simp only [List.length_map, e2, h0, if_true, Int.toNat_natCast, zjl A k hkl, nm0, ee]
  ·obtain ⟨y, r1, z, r2, r3⟩ := ih (k + 1) f (by omega) (by omega)
   refine ⟨y, ?_, z, ?_, r3⟩
   ·show (jk 600).b _ _ ((jk 600).L f) some = _
    generalize (jk 600).L f = Lf at r1 |-
    have ee := zan hc
    simp only [eqP] at ee
    simp only [jk]
    simp only [List.length_map, e2, h0, if_true, Int.toNat_natCast, zjl A k hkl, nm0, ee, zi (show k < 1000000 by omega)]
    exact r1
   ·rcases r2 with ⟨a, b⟩ | ⟨j, a, b, c, g, i⟩
    ·refine .inl ⟨a, λ j h h' => ?_⟩
     by_cases e : k = j
     ·subst e; exact hc
     ·exact b j h (by omega)
    ·refine .inr ⟨j, a, b, by omega, g, λ l hl h1 h2 => ?_⟩
     by_cases e : k = l
     ·subst e; exact hc
     ·exact i l hl (by omega) h2
theorem ztg (A : List RT0) (nm : RT1) (hA : A.length <= 500) : ∃ z, znW 600 (A.map zu, nm) = some z /\ ixD A nm 0 z := by
 obtain ⟨y, h1, z, h2, h3⟩ := zft A nm hA A.length 0 600 (by omega) (by omega)
 replace h1 : (jk 600).L 600 (A.map zu, 0, nm) = some y := h1
 refine ⟨z, ?_, h2⟩
 simp only [znW, FSpec.d, zsq, zqu, h1]
 rcases h3 with ⟨rfl, rfl⟩ | ⟨_, rfl⟩ <;> rfl
theorem ixD.rg {A : List RT0} {nm : RT1} {k : Nat} {z : Int} (h : ixD A nm k z) : -1 <= z /\ z < A.length := by
 rcases h with ⟨rfl, _⟩ | ⟨j, rfl, h, _⟩ <;> omega
def ic (L : List Int) : List AV := L.map λ x => AV.v (.int .i64 x)
theorem zqS (L : List Int) : (ic L).length = L.length := by simp [ic]
theorem zbh (L : List Int) (k : Nat) (h : k < L.length) : (ic L)[k]? = some (AV.v (.int .i64 L[k])) := by simp [ic, h]
theorem zP (L : List Int) : (ic L).map dat0 = ic L := by simp only [ic, List.map_map]; rfl
theorem zxE (L : List Int) (k : Nat) (y : Int) : splice (ic L) k [AV.v (.int .i64 y)] = ic (L.set k y) := by
 show (ic L).set k _ = _
 simp [ic, List.map_set]
theorem zxD (L : List Int) (x : Int) : ic L ++ [AV.v (.int .i64 x)] = ic (L ++ [x]) := by simp [ic]
theorem ztf (L : List Int) (x : Int) (hL : L.length <= 500) : ∀ (d k f : Nat), k + d = L.length -> d < f -> ∃ y, (Zy 600).L f (L.length, x, (k : Int), ic L) = some y /\ ((x ∈ L.drop k /\ y = .inl (true, ic L)) \/ (x ∉ L.drop k /\ y = .inr (ic L))) := by
 intro d
 induction d with
 | zero =>
  intro k f hk hf
  obtain ⟨f, rfl⟩ := pS hf
  refine ⟨_, ?_, .inr ⟨by rw [List.drop_eq_nil_of_le (by omega)]; simp, rfl⟩⟩
  show (Zy 600).b _ _ ((Zy 600).L f) some = _
  have e2 : decide ((k : Int) < ((L.length : Nat) : Int)) = false := dF (by omega)
  simp only [Zy]
  simp only [e2, zP]
 | succ d ih =>
  intro k f hk hf
  obtain ⟨f, rfl⟩ := pS hf
  have hkl : k < L.length := by omega
  have e2 : decide ((k : Int) < ((L.length : Nat) : Int)) = true := dT (by omega)
  have h0 : 0 <= (k : Int) := by omega
  have h1 : (k : Int) < (L.length : Int) := by omega
  have hd := List.drop_eq_getElem_cons hkl
  by_cases hc : L[k] = x
  ·refine ⟨_, ?_, .inl ⟨by rw [hd, hc]; exact List.mem_cons_self, rfl⟩⟩
   show (Zy 600).b _ _ ((Zy 600).L f) some = _
   have e3 : (L[k] == x) = true := by simp [hc]
   simp only [Zy]
   simp only [e2, h0, h1, decide_true, and_self, if_true, Nat.zero_add, Nat.mul_one, Int.toNat_natCast, zbh L k hkl, e3, zP]
  ·obtain ⟨y, r1, r2⟩ := ih (k + 1) f (by omega) (by omega)
   refine ⟨y, ?_, ?_⟩
   ·show (Zy 600).b _ _ ((Zy 600).L f) some = _
    generalize (Zy 600).L f = Lf at r1 |-
    have e3 : (L[k] == x) = false := by simp [hc]
    simp only [Zy]
    simp only [e2, h0, h1, decide_true, and_self, if_true, Nat.zero_add, Nat.mul_one, Int.toNat_natCast, zbh L k hkl, e3, zP, zi (show k < 1000000 by omega)]
    exact r1
   ·rw [hd, List.mem_cons]
    rcases r2 with ⟨a, b⟩ | ⟨a, b⟩
    ·exact .inl ⟨.inr a, b⟩
    ·exact .inr ⟨λ h => h.elim (λ e => hc e.symm) a, b⟩
theorem zA7 (L : List Int) (x : Int) (hL : L.length <= 500) : ∃ b, zeZ 600 (L.length, x, ic L) = some (b, ic L) /\ (b = true ↔ x ∈ L) := by
 obtain ⟨y, h1, h2⟩ := ztf L x hL L.length 0 600 (by omega) (by omega)
 replace h1 : (Zy 600).L 600 (L.length, x, 0, ic L) = some y := h1
 rw [List.drop_zero] at h2
 simp only [zeZ, FSpec.d, zls, zlq, zP, h1]
 rcases h2 with ⟨a, rfl⟩ | ⟨a, rfl⟩
 ·exact ⟨true, by simp only [zP], by simp [a]⟩
 ·exact ⟨false, by simp only [zP], by simp [a]⟩
def Rg (n : Nat) (L : List Int) : Prop := ∀ x ∈ L, -1 <= x /\ x < n
theorem Rg.snoc {n : Nat} {L : List Int} {x : Int} (h : Rg n L) (hx : -1 <= x /\ x < n) : Rg n (L ++ [x]) := λ y hy => by
 rcases List.mem_append.1 hy with h1 | h1
 ·exact h y h1
 ·rw [List.mem_singleton.1 h1]; exact hx
theorem Rg.set {n : Nat} {L : List Int} {x : Int} (h : Rg n L) (k : Nat) (hx : -1 <= x /\ x < n) : Rg n (L.set k x) := λ y hy => by
 rcases List.mem_or_eq_of_mem_set hy with h1 | h1
 ·exact h y h1
 ·rw [h1]; exact hx
theorem zmr {T : Int} {m e : Nat} {C : List (List RT7)} (hC : CG T m e C) (he : e <= 500) (hm : m <= 1000) (A : List RT0) (hA : A.length <= 500) : ∀ (d k f : Nat) (L : List Int), k + d = C.length -> d < f -> L.length = k -> Rg A.length L -> ∃ L' : List Int, (Zg 600).L f (k, A.map zu, (k : Int), zh C, ic L) = some (C.length, A.map zu, zh C, ic L') /\ L'.length = C.length /\ Rg A.length L' := by
 intro d
 induction d with
 | zero =>
  intro k f L hk hf hl hr
  obtain ⟨f, rfl⟩ := pS hf
  obtain rfl : k = C.length := by omega
  refine ⟨L, ?_, hl, hr⟩
  show (Zg 600).b _ _ ((Zg 600).L f) some = _
  have e2 : decide ((C.length : Int) < (C.length : Int)) = false := dF (by omega)
  simp only [Zg]
  simp only [zq, e2, zP]
 | succ d ih =>
  intro k f L hk hf hl hr
  obtain ⟨f, rfl⟩ := pS hf
  have hkl : k < C.length := by omega
  have hle := hC.le
  have e2 : decide ((k : Int) < (C.length : Int)) = true := dT (by omega)
  have h0 : 0 <= (k : Int) := by omega
  have hx := hC.xs k hkl
  have hla := zbi C[k] hx.ne (by have := hx.le; omega)
  obtain ⟨z, i1, i2⟩ := ztg A (nmE (evV (C[k].getLast hx.ne))) hA
  replace i1 : znW 600 (A.map zu, zlX (C[k].getLast hx.ne)) = some z := i1
  obtain ⟨b, j1, j2⟩ := zA7 L z (by omega)
  rw [hl] at j1
  have hst : ∀ x : Int, -1 <= x /\ x < A.length -> ∃ L' : List Int, (Zg 600).L f (k + 1, A.map zu, ((k + 1 : Nat) : Int), zh C, ic (L ++ [x])) = some (C.length, A.map zu, zh C, ic L') /\ L'.length = C.length /\ Rg A.length L' := λ x hx => ih (k + 1) f (L ++ [x]) (by omega) (by omega) (by simp [hl]) (hr.snoc hx)
  have hlen : (ic L).length = k := by rw [zqS, hl]
  have b1 : (k * 1 <= k /\ (k + 1) * 8 <= ze) = True := by unfold ze; simp; omega
  have tk : ∀ x : Int, (ic L).take (k * 1) ++ [[AV.v (.int .i64 x)]].flatten = ic (L ++ [x]) := λ x => by
   rw [Nat.mul_one, <- hlen, List.take_length]
   exact zxD L x
  cases b with
  | true =>
   obtain ⟨L', r1, r2⟩ := hst (-1) (by omega)
   refine ⟨L', ?_, r2⟩
   show (Zg 600).b _ _ ((Zg 600).L f) some = _
   generalize (Zg 600).L f = Lf at r1 |-
   simp only [Zg]
   simp only [zq, e2, h0, if_true, Int.toNat_natCast, zI C k hkl, rd6, hla, i1, zP, j1, hlen, List.length_cons, List.length_nil, Nat.zero_add, b1, tk, zi (show k < 1000000 by omega)]
   exact r1
  | false =>
   obtain ⟨L', r1, r2⟩ := hst z i2.rg
   refine ⟨L', ?_, r2⟩
   show (Zg 600).b _ _ ((Zg 600).L f) some = _
   generalize (Zg 600).L f = Lf at r1 |-
   simp only [Zg]
   simp only [zq, e2, h0, if_true, Int.toNat_natCast, zI C k hkl, rd6, hla, i1, zP, j1, hlen, List.length_cons, List.length_nil, Nat.zero_add, b1, tk, zi (show k < 1000000 by omega)]
   exact r1
theorem zjk {T : Int} {m e : Nat} {C : List (List RT7)} (hC : CG T m e C) (he : e <= 500) (hm : m <= 1000) (A : List RT0) (hA : A.length <= 500) (hpk : ∀ a ∈ A, Jf a) (i : Nat) (hi : i < C.length) : ∀ (d k f : Nat) (L : List Int), k + d = A.length -> d < f -> L.length = C.length -> Rg A.length L -> ∃ L' : List Int, (zD 600).L f (A.map zu, C.length, (i : Int), (k : Int), zh C, ic L) = some (A.map zu, C.length, (i : Int), zh C, ic L') /\ L'.length = C.length /\ Rg A.length L' := by
 intro d
 induction d with
 | zero =>
  intro k f L hk hf hl hr
  obtain ⟨f, rfl⟩ := pS hf
  refine ⟨L, ?_, hl, hr⟩
  show (zD 600).b _ _ ((zD 600).L f) some = _
  have e2 : decide ((k : Int) < (A.length : Int)) = false := dF (by omega)
  simp only [zD]
  simp only [List.length_map, e2, zP]
 | succ d ih =>
  intro k f L hk hf hl hr
  obtain ⟨f, rfl⟩ := pS hf
  have hkl : k < A.length := by omega
  have hle := hC.le
  have e2 : decide ((k : Int) < (A.length : Int)) = true := dT (by omega)
  have h0 : 0 <= (k : Int) := by omega
  have hi0 : 0 <= (i : Int) := by omega
  have hi1 : (i : Int) < (C.length : Int) := by omega
  have hiL : i < L.length := by omega
  have hx := hC.xs i hi
  have hla := zbi C[i] hx.ne (by have := hx.le; omega)
  by_cases hneg : L[i] < 0
  case neg =>
   refine ⟨L, ?_, hl, hr⟩
   show (zD 600).b _ _ ((zD 600).L f) some = _
   have e3 : decide (L[i] < 0) = false := dF (by omega)
   simp only [zD]
   simp only [List.length_map, e2, hi0, hi1, and_self, if_true, Nat.zero_add, Nat.mul_one, Int.toNat_natCast, zbh L i hiL, e3, zP]
  have e3 : decide (L[i] < 0) = true := dT (by omega)
  obtain ⟨b, j1, j2⟩ := zA7 L (k : Int) (by omega)
  rw [hl] at j1
  cases b with
  | true =>
   obtain ⟨L', r1, r2⟩ := ih (k + 1) f L (by omega) (by omega) hl hr
   refine ⟨L', ?_, r2⟩
   show (zD 600).b _ _ ((zD 600).L f) some = _
   generalize (zD 600).L f = Lf at r1 |-
   simp only [zD]
   simp only [List.length_map, e2, hi0, hi1, and_self, if_true, Nat.zero_add, Nat.mul_one, Int.toNat_natCast, zbh L i hiL, e3, zP, j1, Bool.not_true, zi (show k < 1000000 by omega)]
   exact r1
  | false =>
   obtain ⟨P, hP1, hP⟩ := hx.last.ev.pk
   obtain ⟨Q, hQ1, hQ⟩ := hpk A[k] (List.getElem_mem _)
   obtain ⟨b2, q1, q2⟩ := zAT P Q (by omega) (by omega)
   have q3 : znX 600 ((C[i].getLast hx.ne).2.2.2.2.2.2.2.2.2.2.2.2.2.1, Q.map zj) = some b2 := by
    rw [<- hP] at q1; exact q1
   cases b2 with
   | false =>
    obtain ⟨L', r1, r2⟩ := ih (k + 1) f L (by omega) (by omega) hl hr
    refine ⟨L', ?_, r2⟩
    show (zD 600).b _ _ ((zD 600).L f) some = _
    generalize (zD 600).L f = Lf at r1 |-
    simp only [zD]
    simp only [List.length_map, e2, h0, hi0, hi1, and_self, if_true, Nat.zero_add, Nat.mul_one, Int.toNat_natCast, zbh L i hiL, e3, zP, j1, Bool.not_false, zI C i hi, rd6, hla, zjl A k hkl, pk0, zyE, hQ, q3, zi (show k < 1000000 by omega)]
    exact r1
   | true =>
    obtain ⟨L', r1, r2⟩ := ih (k + 1) f (L.set i (k : Int)) (by omega) (by omega) (by simpa using hl) (hr.set i (by omega))
    refine ⟨L', ?_, r2⟩
    show (zD 600).b _ _ ((zD 600).L f) some = _
    generalize (zD 600).L f = Lf at r1 |-
    have b1 : i + 1 <= (ic L).length := by rw [zqS]; omega
    simp only [zD]
    simp only [List.length_map, e2, h0, hi0, hi1, and_self, if_true, Nat.zero_add, Nat.mul_one, Int.toNat_natCast, zbh L i hiL, e3, zP, j1, Bool.not_false, zI C i hi, rd6, hla, zjl A k hkl, pk0, zyE, hQ, q3, b1, zxE, zi (show k < 1000000 by omega)]
    exact r1
theorem zjj {T : Int} {m e : Nat} {C : List (List RT7)} (hC : CG T m e C) (he : e <= 500) (hm : m <= 1000) (A : List RT0) (hA : A.length <= 500) (hpk : ∀ a ∈ A, Jf a) : ∀ (d k f : Nat) (L : List Int), k + d = C.length -> d < f -> L.length = C.length -> Rg A.length L -> ∃ L' : List Int, (Zn 600).L f (A.map zu, C.length, (k : Int), zh C, ic L) = some (C.length, ic L') /\ L'.length = C.length /\ Rg A.length L' := by
 intro d
 induction d with
 | zero =>
  intro k f L hk hf hl hr
  obtain ⟨f, rfl⟩ := pS hf
  refine ⟨L, ?_, hl, hr⟩
  show (Zn 600).b _ _ ((Zn 600).L f) some = _
  have e2 : decide ((k : Int) < (C.length : Int)) = false := dF (by omega)
  simp only [Zn]
  simp only [zq, e2, zP]
 | succ d ih =>
  intro k f L hk hf hl hr
  obtain ⟨f, rfl⟩ := pS hf
  have hkl : k < C.length := by omega
  have hle := hC.le
  have e2 : decide ((k : Int) < (C.length : Int)) = true := dT (by omega)
  obtain ⟨L1, a1, a2, a3⟩ := zjk hC he hm A hA hpk k hkl A.length 0 600 L (by omega) (by omega) hl hr
  replace a1 : (zD 600).L 600 (A.map zu, C.length, (k : Int), 0, zh C, ic L) = _ := a1
  obtain ⟨L', r1, r2⟩ := ih (k + 1) f L1 (by omega) (by omega) a2 a3
  refine ⟨L', ?_, r2⟩
  show (Zn 600).b _ _ ((Zn 600).L f) some = _
  generalize (Zn 600).L f = Lf at r1 |-
  simp only [Zn]
  simp only [zq, e2, zP, zho, a1, zi (show k < 1000000 by omega)]
  exact r1
theorem zoG {T : Int} {m e : Nat} {C : List (List RT7)} (hC : CG T m e C) (he : e <= 500) (hm : m <= 1000) (A : List RT0) (hA : A.length <= 500) (hpk : ∀ a ∈ A, Jf a) : ∃ L : List Int, zkW 600 (zh C, A.map zu) = some (C.length, ic L) /\ L.length = C.length /\ Rg A.length L := by
 have hle := hC.le
 obtain ⟨L1, a1, a2, a3⟩ := zmr hC he hm A hA C.length 0 600 [] (by omega) (by omega) rfl (λ x h => by cases h)
 replace a1 : (Zg 600).L 600 (0, A.map zu, 0, zh C, []) = _ := a1
 obtain ⟨L2, b1, b2, b3⟩ := zjj hC he hm A hA hpk C.length 0 600 L1 (by omega) (by omega) a2 a3
 replace b1 : (Zn 600).L 600 (A.map zu, C.length, 0, zh C, ic L1) = _ := b1
 refine ⟨L2, ?_, b2, b3⟩
 simp only [zkW, FSpec.d, zkY, zkX, zhn, a1, zP, b1]
end
section
theorem CG.add {T : Int} {m e : Nat} {C : List (List RT7)} (h : CG T m e C) (hm : 1 <= m) {v : RT7} (hv : VG T (C.length + 1) C.length v) (h1 : kdV v = 1) : CG T m (e + 1) (C ++ [[v]]) := by
 refine ⟨λ k hk => ?_, by have := h.le; simp; omega⟩
 simp at hk
 rw [List.length_append, List.length_singleton]
 by_cases hl : k < C.length
 ·rw [List.getElem_append_left hl]
  exact (h.xs k hl).mono (Int.le_refl _) (by omega) (Nat.le_refl _)
 ·obtain rfl : k = C.length := by omega
  rw [List.getElem_append_right (by omega)]
  simpa using XG.one hm hv h1
def zoa (t : Int) (e : RT0) : RT7 := (1, t, nob, 0, e)
def zuc (t : Int) (e : RT0) : RT7 := (2, t, nob, 0, e)
theorem zqG {T t : Int} {n i : Nat} {e : RT0} (h0 : 0 <= t) (he : EvG e) : VG t n i (zoa t e) :=
 ⟨.inl rfl, h0, Int.le_refl _, λ _ => rfl, λ h => absurd (.inl rfl) h, λ _ => rfl, λ h => (by cases h), he⟩
theorem zyt {T t : Int} {n i : Nat} {e : RT0} (h0 : 0 <= t) (he : EvG e) : VG t n i (zuc t e) :=
 ⟨.inr (.inl rfl), h0, Int.le_refl _, λ _ => rfl, λ h => absurd (.inr rfl) h, λ _ => rfl, λ h => (by cases h), he⟩
theorem zxg {t : Int} {u : RT7} {e : RT0} (ht : atV u <= t) (ho : jR (kdV u) = true) : Stp u (zoa t e) := ⟨ht, ho, λ h => by cases h⟩
theorem zyu {t : Int} {u : RT7} (ht : atV u <= t) (ho : jR (kdV u) = true) (h2 : kdV u ≠ 2) : Stp u (zuc t (evV u)) := ⟨ht, by
 show (kdV u == 1 || kdV u == 6) = true
 unfold jR at ho
 have : (kdV u == 2) = false := by simpa using h2
 rw [this, Bool.false_or] at ho
 exact ho, λ _ => rfl⟩
open Classical in
noncomputable def zun (A : List RT0) (t : Int) (u : RT7) (k : Int) : Option RT7 :=
 if jR (kdV u) = true then
  if h : 0 <= k /\ k < A.length then
   if zfM (kdV u) = true /\ evV u = A[k.toNat] then none else some (zoa t A[k.toNat])
  else if kdV u = 2 then none else some (zuc t (evV u))
 else none
theorem zxQ {A : List RT0} (hA : ∀ a ∈ A, EvG a) {T t : Int} {n i m : Nat} {x : List RT7} (hx : XG T n i m x) (hT : T <= t) {k : Int} {v : RT7} (h : zun A t (x.getLast hx.ne) k = some v) : VG t n i v /\ Stp (x.getLast hx.ne) v := by
 have hL := hx.last
 have h0 : 0 <= t := Int.le_trans hL.at0 (Int.le_trans hL.atT hT)
 have h1 : atV (x.getLast hx.ne) <= t := Int.le_trans hL.atT hT
 unfold zun at h
 split at h
 ·rename_i ho
  split at h
  ·split at h
   ·cases h
   ·obtain rfl := Option.some.inj h
    exact ⟨zqG (T := T) h0 (hA _ (List.getElem_mem _)), zxg h1 ho⟩
  ·split at h
   ·cases h
   ·rename_i h2
    obtain rfl := Option.some.inj h
    exact ⟨zyt (T := T) h0 hL.ev, zyu h1 ho h2⟩
 ·cases h
theorem ztP (A : List RT0) (hA : ∀ a ∈ A, EvG a) (t : Int) (u : RT7) (hu : EvG (evV u)) (k i : Int) (hk : -1 <= k /\ k < A.length) (ch : List (List AV)) (n N : Nat) (X Y : List (List AV)) (cs ci : List AV) (hcs : cs.map datF = cs) (hci : ci.map dat0 = ci) (j M : Nat) :
  ∃ s v, zbP 600 (ch, A.map zu, t, n, i, (kdV u == 2), k, decide (k >= 0), X, Y, N, u, zuc t (evV u), cs, ci, j, M) = some (ch, A.map zu, t, n, i, s, X, Y, N, u, v, cs, ci, j, M) /\ (jR (kdV u) = true -> zun A t u k = if s = true then none else some v) := by
 have hu' : ∀ y, (Jj 600).b (ch, A.map zu, t, n, i, (kdV u == 2), k, decide (k >= 0), X, Y, N, u, zuc t (evV u), cs, ci, j, M) _ ((Jj 600).L 599) some = y -> zbP 600 (ch, A.map zu, t, n, i, (kdV u == 2), k, decide (k >= 0), X, Y, N, u, zuc t (evV u), cs, ci, j, M) = y := λ y h => h
 by_cases hk0 : 0 <= k
 ·obtain ⟨j', rfl⟩ : ∃ j' : Nat, k = (j' : Int) := ⟨k.toNat, by omega⟩
  have hj : j' < A.length := by omega
  have e1 : decide ((j' : Int) >= 0) = true := dT (by omega)
  have hs := ztZ 600 u
  have hnv : ∀ s v, (s = true ↔ (zfM (kdV u) = true /\ evV u = A[j'])) -> v = zoa t A[j'] -> jR (kdV u) = true -> zun A t u (j' : Int) = if s = true then none else some v := λ s v h1 h2 ho => by
   unfold zun
   rw [if_pos ho, dif_pos ⟨hk0, by omega⟩]
   simp only [Int.toNat_natCast, h2]
   by_cases c : s = true
   ·rw [if_pos c, if_pos (h1.1 c)]
   ·rw [if_neg c, if_neg (λ h => c (h1.2 h))]
  cases hsh : zfM (kdV u) with
  | false =>
   rw [hsh] at hs
   refine ⟨false, zoa t A[j'], hu' _ ?_, hnv _ _ (by simp [hsh]) rfl⟩
   simp only [Jj]
   simp only [e1, hk0, if_true, Int.toNat_natCast, zjl A j' hj, jn, hs, hcs, hci]
   rfl
  | true =>
   rw [hsh] at hs
   obtain ⟨b, q1, q2⟩ := zcJ (evV u) A[j'] hu.pk (hA _ (List.getElem_mem _)).pk
   replace q1 : zaH 600 (zm u, A[j']) = some b := q1
   refine ⟨b, zoa t A[j'], hu' _ ?_, hnv _ _ (by rw [q2]; simp [hsh]) rfl⟩
   simp only [Jj]
   simp only [e1, hk0, if_true, Int.toNat_natCast, zjl A j' hj, jn, hs, hcs, hci, q1]
   rfl
 ·have e1 : decide (k >= 0) = false := dF (by omega)
  refine ⟨(kdV u == 2), zuc t (evV u), hu' _ ?_, ?_⟩
  ·simp only [Jj]
   simp only [e1, hcs, hci]
  ·intro ho
   unfold zun
   rw [if_pos ho, dif_neg (λ h => hk0 h.1)]
   by_cases c : kdV u = 2
   ·rw [if_pos c, if_pos (by simpa using c)]
   ·rw [if_neg c, if_neg (by simpa using c)]
theorem zjx {T t : Int} {m e : Nat} {C : List (List RT7)} (hC : CG T m e C) (he : e <= 500) (hm : m < 100) (hT : T <= t) (A : List RT0) (hA : ∀ a ∈ A, EvG a) (L : List Int) (hL : L.length = C.length) (hr : Rg A.length L) (X : List (List AV)) : ∀ (d k f : Nat) (ch : List (List AV)) (D : List (List RT7)) (cs : List AV) (j : Nat), k + d = C.length -> d < f -> j <= k -> ch.length <= k -> D.length = C.length -> (∀ i (h : i < D.length) (h' : i < C.length), k <= i -> D[i] = C[i]) -> FC D j cs -> CG t (m + 1) e D ->
  ∃ (ch' : List (List AV)) (D' : List (List RT7)) (cs' : List AV) (j' : Nat), (Zj 600).L f (ch, A.map zu, t, C.length, (k : Int), zh C, X, C.length, cs, ic L, j, C.length) = some (.inr (ch', A.map zu, t, C.length, X, C.length, cs', ic L, j', C.length)) /\ ch'.length <= C.length /\ D'.length = C.length /\ FC D' j' cs' /\ CG t (m + 1) e D' := by
 intro d
 induction d with
 | zero =>
  intro k f ch D cs j hk hf hj hch hD hDC hF hG
  obtain ⟨f, rfl⟩ := pS hf
  refine ⟨ch, D, cs, j, ?_, by omega, hD, hF, hG⟩
  show (Zj 600).b _ _ ((Zj 600).L f) some = _
  have e2 : decide ((k : Int) < ((C.length : Nat) : Int)) = false := dF (by omega)
  simp only [Zj]
  simp only [e2, zP, hF.dF]
 | succ d ih =>
  intro k f ch D cs j hk hf hj hch hD hDC hF hG
  obtain ⟨f, rfl⟩ := pS hf
  have hkl : k < C.length := by omega
  have hkd : k < D.length := by omega
  have hle := hC.le
  have e2 : decide ((k : Int) < ((C.length : Nat) : Int)) = true := dT (by omega)
  have h0 : 0 <= (k : Int) := by omega
  have hk1 : (k : Int) < (C.length : Int) := by omega
  have hkL : k < L.length := by omega
  have hx := hC.xs k hkl
  have hxl := hx.le
  have hla := zbi C[k] hx.ne (by omega)
  obtain ⟨u, hu⟩ : ∃ u, u = C[k].getLast hx.ne := ⟨_, rfl⟩
  rw [<- hu] at hla
  have hLast := hx.last
  rw [<- hu] at hLast
  have hop := zih 600 u
  obtain ⟨s, v, a1, a2⟩ := ztP A hA t u hLast.ev L[k] (k : Int) (hr _ (List.getElem_mem _)) ch C.length C.length (zh C) X cs (ic L) hF.dF (zP L) j C.length
  have n1 := zi (show k < 1000000 by omega)
  by_cases hadd : jR (kdV u) = true /\ s = false
  ·obtain ⟨ho, rfl⟩ := hadd
   rw [ho] at hop
   have hnv := a2 ho
   simp only [Bool.false_eq_true, if_false] at hnv
   rw [hu] at hnv
   obtain ⟨g1, g2⟩ := zxQ hA hx hT hnv
   have hDk : D[k] = C[k] := hDC k hkd hkl (Nat.le_refl _)
   have hG' : CG t (m + 1) e (D.set k (D[k] ++ [v])) := by
    refine ⟨λ i hi => ?_, by simpa using hG.le⟩
    simp at hi
    rw [List.length_set, List.getElem_set]
    split
    ·rename_i e'; subst e'
     rw [hDk, hD]
     exact hx.snoc hT g1 g2
    ·exact hG.xs i hi
   obtain ⟨tk, q3, _, q4⟩ := hF.2 k hkd
   rw [q4 hj, hDk] at q3
   have hF' := (hF.to hj).set hkd (D[k] ++ [v]) (q := 6592) (by unfold TOB; omega)
   obtain ⟨ch', D', cs', j', r1, r2⟩ := ih (k + 1) f (ch ++ [[AV.v (.int .i64 (k : Int))]]) _ _ (k + 1) (by omega) (by omega) (by omega) (by simp; omega) (by simpa using hD) (λ i h h' hi => by
    rw [List.getElem_set_ne (by omega)]
    exact hDC i (by simpa using h) h' (by omega)) hF' hG'
   refine ⟨ch', D', cs', j', ?_, r2⟩
   show (Zj 600).b _ _ ((Zj 600).L f) some = _
   generalize (Zj 600).L f = Lf at r1 |-
   have a1' : zbP 600 (ch, A.map zu, t, C.length, (k : Int), (u.1 == 2), L[k], decide (L[k] >= 0), zh C, X, C.length, u, (2, t, (⟨#[]⟩ : ByteArray), 0, u.2.2.2.2), cs, ic L, j, C.length) = _ := a1
   have hr' : (C[k].map zp) ++ [zp v] = (D[k] ++ [v]).map zp := by rw [hDk]; simp
   have b1 : ((C[k].map zp).length + [zp v].length) * 288 <= ze := by unfold ze; simp; omega
   have b2 : k + 1 <= cs.length := by rw [hF.1]; omega
   have b3 : (ch.length + [[AV.v (.int .i64 (k : Int))]].length) * 8 <= ze := by unfold ze; simp; omega
   have sp : (splice cs k [AV.list 29 ((D[k] ++ [v]).map zp) (some 6592)])[k]? = some (AV.list 29 ((D[k] ++ [v]).map zp) (some 6592)) := by
    show (cs.set k _)[k]? = _
    rw [List.getElem?_set_self (by omega)]
   have l1 : ZW 29 (AV.list 29 ((D[k] ++ [v]).map zp) (some 6592)) = some ((D[k] ++ [v]).map zp) := by simp [ZW]
   have c1 : decide ((((D[k] ++ [v]).map zp).length : Int) > 100) = false := by rw [decide_eq_false_iff_not, hDk]; simp; omega
   simp only [Zj]
   simp only [e2, h0, hk1, decide_true, and_self, if_true, Int.toNat_natCast, zI C k hkl, rd6, hla, Nat.zero_add, Nat.mul_one, Nat.add_zero, zbh L k hkL, hF.dF, zP, a1', hop, Bool.not_false, q3, hj, hkl, hr', b2, b3, sp, l1, c1, n1]
   rw [if_pos b1]
   exact r1
  ·obtain ⟨ch', D', cs', j', r1, r2⟩ := ih (k + 1) f ch D cs j (by omega) (by omega) (by omega) (by omega) hD (λ i h h' hi => hDC i h h' (by omega)) hF hG
   refine ⟨ch', D', cs', j', ?_, r2⟩
   show (Zj 600).b _ _ ((Zj 600).L f) some = _
   generalize (Zj 600).L f = Lf at r1 |-
   have a1' : zbP 600 (ch, A.map zu, t, C.length, (k : Int), (u.1 == 2), L[k], decide (L[k] >= 0), zh C, X, C.length, u, (2, t, (⟨#[]⟩ : ByteArray), 0, u.2.2.2.2), cs, ic L, j, C.length) = _ := a1
   simp only [Zj]
   simp only [e2, h0, hk1, decide_true, and_self, if_true, Int.toNat_natCast, zI C k hkl, rd6, hla, Nat.zero_add, Nat.mul_one, Nat.add_zero, zbh L k hkL, hF.dF, zP, a1', hop, n1]
   cases ho : jR (kdV u) with
   | false => exact r1
   | true =>
    cases s with
    | true => exact r1
    | false => exact absurd ⟨ho, rfl⟩ hadd
end
section
theorem zon (D : List (List RT7)) (v : RT7) : ((zal D).take (D.length * 1) ++ [AV.list 29 [zp v] none]).map dat0 = zal (D ++ [[v]]) := by
 rw [Nat.mul_one, List.take_of_length_le (by rw [zeh]; exact Nat.le_refl _), List.map_append, zam, <- zol]
 rfl
theorem zjy {t : Int} (h0 : 0 <= t) (A : List RT0) (hA : ∀ a ∈ A, EvG a) (hAl : A.length <= 100) (L : List Int) (hL : L.length <= 500) (X : List (List AV)) {m : Nat} (hm : 1 <= m) : ∀ (d k f e : Nat) (ch : List (List AV)) (D : List (List RT7)), k + d = A.length -> d < f -> e + d <= 500 -> ch.length <= e -> CG t m e D ->
  ∃ (ch' : List (List AV)) (D' : List (List RT7)), (Zk 600).L f (ch, A.map zu, t, L.length, (k : Int), X, D.length, ic L, zal D) = some (ch', X, D'.length, zal D') /\ CG t m (e + d) D' := by
 intro d
 induction d with
 | zero =>
  intro k f e ch D hk hf he hch hG
  obtain ⟨f, rfl⟩ := pS hf
  refine ⟨ch, D, ?_, hG⟩
  show (Zk 600).b _ _ ((Zk 600).L f) some = _
  have e2 : decide ((k : Int) < (A.length : Int)) = false := dF (by omega)
  simp only [Zk]
  simp only [List.length_map, e2, zam]
 | succ d ih =>
  intro k f e ch D hk hf he hch hG
  obtain ⟨f, rfl⟩ := pS hf
  have hkl : k < A.length := by omega
  have hDl := hG.le
  have e2 : decide ((k : Int) < (A.length : Int)) = true := dT (by omega)
  have h0 : 0 <= (k : Int) := by omega
  have n1 := zi (show k < 1000000 by omega)
  obtain ⟨b, j1, j2⟩ := zA7 L (k : Int) hL
  cases b with
  | true =>
   obtain ⟨ch', D', r1, r2⟩ := ih (k + 1) f e ch D (by omega) (by omega) (by omega) hch hG
   refine ⟨ch', D', ?_, r2.mono (Int.le_refl _) (Nat.le_refl _) (by omega)⟩
   show (Zk 600).b _ _ ((Zk 600).L f) some = _
   generalize (Zk 600).L f = Lf at r1 |-
   simp only [Zk]
   simp only [List.length_map, e2, zam, zP, j1, Bool.not_true, n1]
   exact r1
  | false =>
   have hv : VG t (D.length + 1) D.length (zoa t A[k]) := zqG (T := t) (by assumption) (hA _ (List.getElem_mem _))
   obtain ⟨ch', D', r1, r2⟩ := ih (k + 1) f (e + 1) (ch ++ [[AV.v (.int .i64 ((D.length : Nat) : Int))]]) (D ++ [[zoa t A[k]]]) (by omega) (by omega) (by omega) (by simp; omega) (hG.add hm hv rfl)
   refine ⟨ch', D', ?_, r2.mono (Int.le_refl _) (Nat.le_refl _) (by omega)⟩
   have hl1 : (D ++ [[zoa t A[k]]]).length = D.length + 1 := by simp
   rw [hl1, <- zon] at r1
   show (Zk 600).b _ _ ((Zk 600).L f) some = _
   generalize (Zk 600).L f = Lf at r1 |-
   have b1 : (ch.length + 1) * 8 <= ze := by unfold ze; omega
   have b2 : (D.length * 1 <= (zal D).length /\ (D.length + 1) * 24 <= ze) := by rw [zeh]; unfold ze; omega
   simp only [Zk]
   simp only [List.length_map, e2, zam, zP, j1, Bool.not_false, n1, h0, if_true, Int.toNat_natCast, zjl A k hkl, jn, List.length_cons, List.length_nil, Nat.zero_add]
   rw [if_pos b1]
   exact (if_pos b2).trans r1
theorem zmS {T t : Int} {m e : Nat} {C : List (List RT7)} (hC : CG T m e C) {A : List RT0} {M : Nat} (hM : M <= 5) (hA : Evs 0 M A) (he : e + M <= 500) (hm : m < 100) (hT : T <= t) (ht0 : 0 <= t) (ht : t <= 18014398509481984) : ∃ C' l, zrP 600 (zh C, A.map zu, t) = some (zh C', l, 0) /\ CG t (m + 1) (e + M) C' := by
 have hle := hC.le
 have hAl := zdB hA
 have hg : ∀ a ∈ A, EvG a := λ a ha => (hA.evn hM a ha).g
 have hV := zlY (by omega) (by omega) (by omega) hC
 have hE := zbf hM hA
 have hL := zh9 hT (by omega) (by omega) hC
 obtain ⟨cs, q1, q2⟩ := zmh (C := C) (by omega) (hC.small (by omega))
 obtain ⟨L, f1, f2, f3⟩ := zoG hC (by omega) (by omega) A (by omega) (λ a ha => (hg a ha).pk)
 obtain ⟨ch, D, cs', j, p1, p2, p3, p4, p5⟩ := zjx hC (by omega) hm hT A hg L f2 f3 [] C.length 0 600 [] C cs 0 (by omega) (by omega) (by omega) (by simp) rfl (λ i h h' _ => rfl) q2 (hC.mono hT (by omega) (Nat.le_refl _))
 obtain ⟨ch2, D2, s1, s2⟩ := zjy ht0 A hg (by omega) L (by omega) [] (m := m + 1) (by omega) A.length 0 600 (e + (M - A.length)) ch D (by omega) (by omega) (by omega) (by omega) (p5.mono (Int.le_refl _) (Nat.le_refl _) (by omega))
 replace p1 : (Zj 600).L 600 ([], A.map zu, t, C.length, 0, zh C, [], C.length, cs, ic L, 0, C.length) = _ := p1
 replace s1 : (Zk 600).L 600 (ch, A.map zu, t, L.length, 0, [], D.length, ic L, zal D) = _ := s1
 rw [f2, p3] at s1
 have s3 : CG t (m + 1) (e + M) D2 := s2.mono (Int.le_refl _) (Nat.le_refl _) (by omega)
 have s4 := s3.le
 have n5 : decide (t < 0) = false := dF (by omega)
 have n6 : decide (t > 18014398509481984) = false := dF (by omega)
 have n7 : decide (((D2.length : Nat) : Int) > 500) = false := dF (by omega)
 have n8 : D2.length * 1 <= (zal D2).length := by rw [zeh]; omega
 refine ⟨D2, ch2, ?_, s3⟩
 simp only [zrP, FSpec.d, zrQ, hV, hE, hL, Bool.not_true, n5, n6, q1, q2.dJ, q2.dF, f1, zP, zkM, p1, zkN, p4.d0, s1, n7]
 rw [if_pos n8, zje]
theorem zeL {xs : List Int} {p : Int} (D : Sc xs p) : ∃ b p', Ji 600 ([[AV.v (.string (⟨#[97, 110, 110]⟩ : ByteArray))], [AV.v (.string (⟨#[98, 111, 98]⟩ : ByteArray))]], zk xs, p) = some (b, zk xs, p') /\ Per b /\ Sc xs p' := by
 obtain ⟨v, p1, h1, m1, D1⟩ := jV 600 (n := 2) (by omega) D
 replace h1 : zN 600 ((([[AV.v (.string (⟨#[97, 110, 110]⟩ : ByteArray))], [AV.v (.string (⟨#[98, 111, 98]⟩ : ByteArray))]] : List (List AV)).length : Int), zk xs, p) = some (v, zk xs, p1) := h1
 have h0 : 0 <= v := m1.1
 rcases (show v = 0 \/ v = 1 by omega) with rfl | rfl
 ·refine ⟨ann, p1, ?_, (show zcV ann = true by kernel_rfl), D1⟩
  simp only [Ji, FSpec.d, zdW, h1]
  rfl
 ·refine ⟨bob, p1, ?_, (show zcV bob = true by kernel_rfl), D1⟩
  simp only [Ji, FSpec.d, zdW, h1]
  rfl
theorem zjm {xs : List Int} (n : Nat) (hn : n <= 50) (X : List (List AV)) : ∀ (d i f : Nat) (p now : Int) (C : List (List RT7)), i + d = n -> d < f -> Sc xs p -> 100 <= now -> now <= 100 + 50 * i -> CG now i (4 * i) C ->
  ∃ (now' p' : Int) (C' : List (List RT7)), (ZQ 600).L f ((n : Int), now, (i : Int), zk xs, p, X, zh C) = some (now', zk xs, p', X, zh C') /\ Sc xs p' /\ 100 <= now' /\ now' <= 100 + 50 * n /\ CG now' n (4 * n) C' := by
 intro d
 induction d with
 | zero =>
  intro i f p now C hi hf D h1 h2 hC
  obtain ⟨f, rfl⟩ := pS hf
  obtain rfl : i = n := by omega
  refine ⟨now, p, C, ?_, D, h1, h2, hC⟩
  show (ZQ 600).b _ _ ((ZQ 600).L f) some = _
  have e2 : decide ((i : Int) < (i : Int)) = false := dF (by omega)
  simp only [ZQ]
  simp only [e2]
 | succ d ih =>
  intro i f p now C hi hf D h1 h2 hC
  obtain ⟨f, rfl⟩ := pS hf
  have hle := hC.le
  have e2 : decide ((i : Int) < (n : Int)) = true := dT (by omega)
  have n1 := zi (show i < 1000000 by omega)
  obtain ⟨a1, p1, g1, m1, D1⟩ := jV 600 (n := 50) (by omega) D
  obtain ⟨mx, hmx⟩ : ∃ mx : Int, mx = if (C.length : Int) > 1 then (C.length : Int) else 1 := ⟨_, rfl⟩
  have hmx' : 1 <= mx /\ mx <= 1000 := by rw [hmx]; split <;> omega
  obtain ⟨a2, p2, g2, m2, D2⟩ := jV 600 (n := mx) (by omega) D1
  obtain ⟨a3, p3, g3, m3, D3⟩ := jV 600 (n := 8) (by omega) D2
  have i1 : i64 (now + a1) = now + a1 := zG (by omega)
  obtain ⟨id, hid⟩ : ∃ id : Nat, a2 = (id : Int) := ⟨a2.toNat, by omega⟩
  subst hid
  have hgo : ∀ (q : Int) (C' : List (List RT7)), Sc xs q -> CG (now + a1) (i + 1) (4 * (i + 1)) C' -> ∃ (now' p' : Int) (C'' : List (List RT7)), (ZQ 600).L f ((n : Int), now + a1, ((i + 1 : Nat) : Int), zk xs, q, X, zh C') = some (now', zk xs, p', X, zh C'') /\ Sc xs p' /\ 100 <= now' /\ now' <= 100 + 50 * n /\ CG now' n (4 * n) C'' := λ q C' hq hc => ih (i + 1) f q (now + a1) C' (by omega) (by omega) hq (by omega) (by omega) hc
  have hkeep : CG (now + a1) (i + 1) (4 * (i + 1)) C := hC.mono (by omega) (by omega) (by omega)
  have hres : ∀ y, (ZQ 600).b ((n : Int), now, (i : Int), zk xs, p, X, zh C) _ ((ZQ 600).L f) some = y -> (ZQ 600).L (f + 1) ((n : Int), now, (i : Int), zk xs, p, X, zh C) = y := λ y h => h
  have key : ∃ (q : Int) (C' : List (List RT7)), (ZQ 600).b ((n : Int), now, (i : Int), zk xs, p, X, zh C) _ ((ZQ 600).L f) some = (ZQ 600).L f ((n : Int), now + a1, ((i + 1 : Nat) : Int), zk xs, q, X, zh C') /\ Sc xs q /\ CG (now + a1) (i + 1) (4 * (i + 1)) C' := by
   obtain ⟨Lf, hLf⟩ : ∃ Lf, Lf = (ZQ 600).L f := ⟨_, rfl⟩
   rw [<- hLf]
   simp only [ZQ]
   simp only [e2, g1, zq, <- hmx, g2, g3, i1, n1]
   have he0 : 4 * i <= 500 := by omega
   rcases (show a3 = 0 \/ a3 = 1 \/ a3 = 2 \/ a3 = 3 \/ 4 <= a3 by omega) with rfl | rfl | rfl | rfl | h4
   ·have c0 : ((0 : Int) == 0) = true := by decide
    simp only [c0]
    obtain ⟨A, p4, g4, l4, v4, D4⟩ := zqO 4 (by omega) D3
    replace g4 : ziM 600 (4, zk xs, p3) = some (A.map zu, zk xs, p4) := g4
    simp only [g4, List.length_map]
    by_cases hA : 0 < A.length
    ·have c1 : decide ((A.length : Int) > 0) = true := dT (by omega)
     obtain ⟨b, p5, g5, hb, D5⟩ := zeL D4
     obtain ⟨a6, p6, g6, m6, D6⟩ := jV 600 (n := (A.length : Int)) (by omega) D5
     obtain ⟨z, rfl⟩ : ∃ z : Nat, a6 = (z : Int) := ⟨a6.toNat, by omega⟩
     have hz : z < A.length := by omega
     have hz0 : 0 <= (z : Int) := by omega
     obtain ⟨d1, y1, r1, r2⟩ := zpe hC he0 (by omega) (t := now + a1) (by omega) (by omega) (by omega) hb (v4.evn (by omega) A[z] (List.getElem_mem _)).g id
     simp only [c1, g5, g6, hz0, if_true, Int.toNat_natCast, zjl A z hz, jn, r1]
     by_cases hy : y1 = 0
     ·obtain ⟨C', rfl, hC'⟩ := r2 hy
      have c2 : (y1 == 0) = true := by simp [hy]
      simp only [c2]
      exact ⟨p6, C', rfl, D6, hC'.mono (Int.le_refl _) (Nat.le_refl _) (by omega)⟩
     ·have c2 : (y1 == 0) = false := by simp [hy]
      simp only [c2]
      exact ⟨p6, C, rfl, D6, hkeep⟩
    ·have c1 : decide ((A.length : Int) > 0) = false := dF (by omega)
     simp only [c1]
     exact ⟨p4, C, rfl, D4, hkeep⟩
   ·have c0 : ((1 : Int) == 0) = false := by decide
    have c1 : ((1 : Int) == 1) = true := by decide
    obtain ⟨b, p5, g5, hb, D5⟩ := zeL D3
    obtain ⟨d1, y1, r1, r2⟩ := zow hC he0 (by omega) (t := now + a1) (by omega) (by omega) (by omega) hb id
    simp only [c0, c1, g5, r1]
    by_cases hy : y1 = 0
    ·obtain ⟨C', rfl, hC'⟩ := r2 hy
     have c2 : (y1 == 0) = true := by simp [hy]
     simp only [c2]
     exact ⟨p5, C', rfl, D5, hC'.mono (Int.le_refl _) (Nat.le_refl _) (by omega)⟩
    ·have c2 : (y1 == 0) = false := by simp [hy]
     simp only [c2]
     exact ⟨p5, C, rfl, D5, hkeep⟩
   ·have c0 : ((2 : Int) == 0) = false := by decide
    have c1 : ((2 : Int) == 1) = false := by decide
    have c2 : ((2 : Int) == 2) = true := by decide
    obtain ⟨a4, p4, g4, m4, D4⟩ := jV 600 (n := mx) (by omega) D3
    obtain ⟨to, rfl⟩ : ∃ to : Nat, a4 = (to : Int) := ⟨a4.toNat, by omega⟩
    obtain ⟨b, p5, g5, hb, D5⟩ := zeL D4
    obtain ⟨d1, y1, r1, r2⟩ := zto hC he0 (by omega) (t := now + a1) (by omega) (by omega) (by omega) hb id to
    simp only [c0, c1, c2, g4, g5, r1]
    by_cases hy : y1 = 0
    ·obtain ⟨C', rfl, hC'⟩ := r2 hy
     have c2 : (y1 == 0) = true := by simp [hy]
     simp only [c2]
     exact ⟨p5, C', rfl, D5, hC'.mono (Int.le_refl _) (Nat.le_refl _) (by omega)⟩
    ·have c2 : (y1 == 0) = false := by simp [hy]
     simp only [c2]
     exact ⟨p5, C, rfl, D5, hkeep⟩
   ·have c0 : ((3 : Int) == 0) = false := by decide
    have c1 : ((3 : Int) == 1) = false := by decide
    have c2 : ((3 : Int) == 2) = false := by decide
    have c3 : ((3 : Int) == 3) = true := by decide
    obtain ⟨b, p5, g5, hb, D5⟩ := zeL D3
    obtain ⟨d1, y1, r1, r2⟩ := zmW hC he0 (by omega) (t := now + a1) (by omega) (by omega) (by omega) hb id
    simp only [c0, c1, c2, c3, g5, r1]
    by_cases hy : y1 = 0
    ·obtain ⟨C', rfl, hC'⟩ := r2 hy
     have c2 : (y1 == 0) = true := by simp [hy]
     simp only [c2]
     exact ⟨p5, C', rfl, D5, hC'.mono (Int.le_refl _) (Nat.le_refl _) (by omega)⟩
    ·have c2 : (y1 == 0) = false := by simp [hy]
     simp only [c2]
     exact ⟨p5, C, rfl, D5, hkeep⟩
   ·have c0 : (a3 == 0) = false := by simp; omega
    have c1 : (a3 == 1) = false := by simp; omega
    have c2 : (a3 == 2) = false := by simp; omega
    have c3 : (a3 == 3) = false := by simp; omega
    obtain ⟨A, p4, g4, l4, v4, D4⟩ := zqO 4 (by omega) D3
    replace g4 : ziM 600 (4, zk xs, p3) = some (A.map zu, zk xs, p4) := g4
    obtain ⟨C', l, r1, r2⟩ := zmS hC (by omega) v4 (by omega) (by omega) (t := now + a1) (by omega) (by omega) (by omega)
    have c4 : ((0 : Int) == 0) = true := by decide
    simp only [c0, c1, c2, c3, g4, r1, c4]
    exact ⟨p4, C', rfl, D4, r2.mono (Int.le_refl _) (Nat.le_refl _) (by omega)⟩
  obtain ⟨q, C', k1, k2, k3⟩ := key
  obtain ⟨now', p', C'', s1, s2⟩ := hgo q C' k2 k3
  exact ⟨now', p', C'', hres _ (k1.trans s1), s2⟩
theorem zoH {xs : List Int} {p : Int} (D : Sc xs p) (n : Nat) (hn : n <= 50) : ∃ (C : List (List RT7)) (t p' : Int), zri 600 ((n : Int), zk xs, p) = some (zh C, t, zk xs, p') /\ Sc xs p' /\ 100 <= t /\ t <= 100 + 50 * n /\ CG t n (4 * n) C := by
 obtain ⟨t, p', C, h1, h2, h3, h4, h5⟩ := zjm n hn [] n 0 600 p 100 [] (by omega) (by omega) D (by omega) (by omega) (CG.nil _ _ _)
 replace h1 : (ZQ 600).L 600 ((n : Int), 100, 0, zk xs, p, [], []) = _ := h1
 refine ⟨C, t, p', ?_, h2, h3, h4, h5⟩
 simp only [zri, FSpec.d, zrj, zpR, h1]
end
section
theorem zx2 (x : List (List AV)) (h : x.length <= 100000) : zn0 600 x = some x := by
 have hb : ((([] : List (List AV)).length + x.length) * 104 <= ze) = True := by unfold ze; simp; omega
 simp only [zn0, FSpec.d, zsD]
 cases x with
 | nil => simp only [hb, if_true]; exact if_pos rfl
 | cons a l => simp only [hb, if_true, List.nil_append]
theorem zfg {e : RT0} (h : Jf e) : zcX 600 e = some e := by
 obtain ⟨P, h1, h2⟩ := h
 have hc : zn0 600 e.2.2.2.2.2.2.2.2.2.1 = some e.2.2.2.2.2.2.2.2.2.1 := zx2 _ (by
  have : e.2.2.2.2.2.2.2.2.2.1 = P.map zj := h2
  rw [this]; simp; omega)
 simp only [zcX, FSpec.d, zr4, hc]
theorem zo6 {T : Int} {m e : Nat} {C : List (List RT7)} (he : e <= 500) (hm : m <= 100) (hC : CG T m e C) (i : Nat) (hi : i < C.length) (X : List (List AV)) (N : Nat) (cs : List AV) (hcs : cs.map datF = cs) (j M : Nat) : ∀ (d k f : Nat), k + d = C[i].length -> d < f -> (Zo 600).L f ((C[i].take k).map zp, zh C, C[i].map zp, (C.length : Int), (i : Int), (C[i].length : Int), (k : Int), X, N, cs, j, M) = some (C[i].map zp, zh C, (C.length : Int), (i : Int), X, N, cs, j, M) := by
 have h := hC.xs i hi
 have hle := hC.le
 have hxl := h.le
 intro d
 induction d with
 | zero =>
  intro k f hk hf
  obtain ⟨f, rfl⟩ := pS hf
  show (Zo 600).b _ _ ((Zo 600).L f) some = _
  have e2 : decide ((k : Int) < (C[i].length : Int)) = false := dF (by omega)
  have e3 : C[i].take k = C[i] := List.take_of_length_le (by omega)
  simp only [Zo]
  simp only [e2, e3, hcs]
 | succ d ih =>
  intro k f hk hf
  obtain ⟨f, rfl⟩ := pS hf
  have hkl : k < C[i].length := by omega
  have r1 := ih (k + 1) f (by omega) (by omega)
  show (Zo 600).b _ _ ((Zo 600).L f) some = _
  generalize (Zo 600).L f = Lf at r1 |-
  have e2 : decide ((k : Int) < (C[i].length : Int)) = true := dT (by omega)
  have h0 : 0 <= (k : Int) := by omega
  have hc := zfg (h.vs k hkl).ev.pk
  replace hc : zcX 600 (zm C[i][k]) = some (evV C[i][k]) := hc
  have b1 : (((C[i].take k).map zp).length + 1) * 288 <= ze := by unfold ze; simp; omega
  have e3 : (C[i].take (k + 1)).map zp = (C[i].take k).map zp ++ [zp C[i][k]] := by
   rw [<- List.take_append_getElem hkl, List.map_append]; rfl
  rw [e3] at r1
  simp only [Zo]
  simp only [e2, h0, if_true, Int.toNat_natCast, zcA C[i] k hkl, rd7, hc, hcs, zi (show k < 1000000 by omega), List.length_cons, List.length_nil, Nat.zero_add]
  exact (if_pos b1).trans r1
theorem zmM {T : Int} {m e : Nat} {C : List (List RT7)} (he : e <= 500) (hm : m <= 100) (hC : CG T m e C) (X : List (List AV)) : ∀ (d k f : Nat) (cs : List AV), k + d = C.length -> d < f -> FC (C.take k) 0 cs -> ∃ cs', (Z5 600).L f (zh C, (C.length : Int), (k : Int), X, k, cs, 0, k) = some (X, C.length, cs', 0, C.length) /\ FC C 0 cs' := by
 have hle := hC.le
 intro d
 induction d with
 | zero =>
  intro k f cs hk hf hc
  obtain ⟨f, rfl⟩ := pS hf
  obtain rfl : k = C.length := by omega
  rw [List.take_length] at hc
  refine ⟨cs, ?_, hc⟩
  show (Z5 600).b _ _ ((Z5 600).L f) some = _
  have e2 : decide ((C.length : Int) < (C.length : Int)) = false := dF (by omega)
  simp only [Z5]
  simp only [e2, hc.dF]
 | succ d ih =>
  intro k f cs hk hf hc
  obtain ⟨f, rfl⟩ := pS hf
  have hkl : k < C.length := by omega
  have hxl := (hC.xs k hkl).le
  have hn := hc.snoc C[k]
  have hlk : (C.take k).length = k := by simp; omega
  rw [hlk, List.take_append_getElem] at hn
  obtain ⟨cs', r1, r2⟩ := ih (k + 1) f _ (by omega) (by omega) hn
  have a1 := zo6 he hm hC k hkl X k cs hc.dF 0 k C[k].length 0 600 (by omega) (by omega)
  replace a1 : (Zo 600).L 600 ([], zh C, C[k].map zp, (C.length : Int), (k : Int), (C[k].length : Int), 0, X, k, cs, 0, k) = _ := a1
  refine ⟨cs', ?_, r2⟩
  show (Z5 600).b _ _ ((Z5 600).L f) some = _
  generalize (Z5 600).L f = Lf at r1 |-
  have e2 : decide ((k : Int) < (C.length : Int)) = true := dT (by omega)
  have h0 : 0 <= (k : Int) := by omega
  have b2 : ((True /\ 0 <= k) /\ k * 1 <= cs.length /\ (k + 1) * 24 <= ze) = True := by rw [hc.1, hlk]; unfold ze; simp; omega
  simp only [Z5]
  simp only [e2, h0, if_true, Int.toNat_natCast, zI C k hkl, rd6, List.length_map, hc.dF, zhv, a1, b2, zi (show k < 1000000 by omega)]
  exact r1
theorem zxu {T : Int} {m e : Nat} {C : List (List RT7)} (he : e <= 500) (hm : m <= 100) (hC : CG T m e C) : ∃ cs, zhu 600 (zh C) = some (C.length, cs, 0, C.length) /\ FC C 0 cs := by
 have hle := hC.le
 obtain ⟨cs, h1, h2⟩ := zmM he hm hC [] C.length 0 600 [] (by omega) (by omega) (by simpa using FC.nil)
 refine ⟨cs, ?_, h2⟩
 replace h1 : (Z5 600).L 600 (zh C, (C.length : Int), 0, [], 0, [], 0, 0) = some ([], C.length, cs, 0, C.length) := h1
 simp only [zhu, FSpec.d, zlg, zle, zq, h1, h2.dF]
end
section
theorem zoD (X : List (List AV)) (i : Int) : zlN 600 (X, i) = some (decide (0 <= i /\ i < (X.length : Int))) := by
 simp only [zlN, FSpec.d, zsu]
 by_cases h : 0 <= i
 ·have e : decide (i >= 0) = true := dT (by omega)
  simp only [e]; simp [h]
 ·have e : decide (i >= 0) = false := dF (by omega)
  simp only [e]; simp [h]
def Ref (k to : Int) (id : Nat) (u : RT7) : Prop := (k = 5 /\ to = (id : Int)) \/ (k = 6 /\ jR (kdV u) = true)
theorem zsL {k t : Int} {b : ByteArray} {to : Int} {e1 : RT0} (hs : Say k b to e1) (id : Nat) (X : List (List AV)) {L : RT7} (hL : Kd6 (kdV L)) : ∃ c, zgd 600 ((id : Int), X, (k, t, b, to, e1), [], L) = some ((id : Int), c, X, (k, t, b, to, e1), [], L) /\ (c = true ↔ Ref k to id L) := by
 have hu : ∀ y, (Jm 600).b ((id : Int), X, (k, t, b, to, e1), [], L) _ ((Jm 600).L 599) some = y -> zgd 600 ((id : Int), X, (k, t, b, to, e1), [], L) = y := λ y h => h
 have hop := zxW hL
 simp only [kdV] at hop
 rcases hs.kd with rfl | rfl | rfl | rfl
 ·exact ⟨false, hu _ (by kernel_rfl), by simp [Ref]⟩
 ·exact ⟨false, hu _ (by kernel_rfl), by simp [Ref]⟩
 ·by_cases c3 : to = (id : Int)
  ·refine ⟨true, hu _ ?_, by simp [Ref, c3]⟩
   have c4 : (to == (id : Int)) = true := by simp [c3]
   have c5 : ((5 : Int) == 5) = true := by decide
   simp only [Jm]
   simp only [c4, c5]
  ·refine ⟨false, hu _ ?_, by simp [Ref, c3]⟩
   have c4 : (to == (id : Int)) = false := by simp [c3]
   have c5 : ((5 : Int) == 5) = true := by decide
   have c6 : ((5 : Int) == 6) = false := by decide
   simp only [Jm]
   simp only [c4, c5, c6]
 ·refine ⟨jR (kdV L), hu _ ?_, by simp [Ref]⟩
  have c5 : ((6 : Int) == 5) = false := by decide
  have c6 : ((6 : Int) == 6) = true := by decide
  simp only [Jm]
  simp only [c5, c6, hop]
theorem zpd (C : List (List RT7)) (id : Int) (b : ByteArray) (x : RT0) (t : Int) : znw 600 (zh C, id, b, x, t) = jW 600 (zh C, id, (3, t, b, 0, x)) := by
 show (match jW 600 (zh C, id, (3, t, b, 0, x)) with | some y1 => some y1 | none => none) = _
 cases jW 600 (zh C, id, (3, t, b, 0, x)) <;> rfl
theorem zov (C : List (List RT7)) (id : Int) (b : ByteArray) (t : Int) : zrw 600 (zh C, id, b, t) = jW 600 (zh C, id, (4, t, b, 0, zE)) := by
 show (match jW 600 (zh C, id, (4, t, b, 0, zE)) with | some y1 => some y1 | none => none) = _
 cases jW 600 (zh C, id, (4, t, b, 0, zE)) <;> rfl
theorem ztn (C : List (List RT7)) (id to : Int) (b : ByteArray) (t : Int) : zrx 600 (zh C, id, to, b, t) = jW 600 (zh C, id, (5, t, b, to, zE)) := by
 show (match jW 600 (zh C, id, (5, t, b, to, zE)) with | some y1 => some y1 | none => none) = _
 cases jW 600 (zh C, id, (5, t, b, to, zE)) <;> rfl
theorem zmV (C : List (List RT7)) (id : Int) (b : ByteArray) (t : Int) : zry 600 (zh C, id, b, t) = jW 600 (zh C, id, (6, t, b, 0, zE)) := by
 show (match jW 600 (zh C, id, (6, t, b, 0, zE)) with | some y1 => some y1 | none => none) = _
 cases jW 600 (zh C, id, (6, t, b, 0, zE)) <;> rfl
end
section
structure Cm {α : Type} (c : α -> α -> Int) : Prop where
 vals : ∀ a b, c a b = -1 \/ c a b = 0 \/ c a b = 1
 zero : ∀ a b, c a b = 0 ↔ a = b
 anti : ∀ a b, c b a = - c a b
 trans : ∀ a b d, c a b = -1 -> c b d = -1 -> c a d = -1
def cmU : Unit -> Unit -> Int := λ _ _ => 0
theorem Cm.unit : Cm cmU := ⟨λ _ _ => .inr (.inl rfl), λ _ _ => ⟨λ _ => rfl, λ _ => rfl⟩, λ _ _ => rfl, λ _ _ _ h => by cases h⟩
def cmI (a b : Int) : Int := if a < b then -1 else if a > b then 1 else 0
theorem zbc {a b : Int} (h : a < b) : cmI a b = -1 := if_pos h
theorem zcr (a : Int) : cmI a a = 0 := (if_neg (by omega)).trans (if_neg (by omega))
theorem zbb {a b : Int} (h : b < a) : cmI a b = 1 := (if_neg (by omega)).trans (if_pos h)
theorem Cm.int : Cm cmI := by
 refine ⟨λ a b => ?_, λ a b => ?_, λ a b => ?_, λ a b d h1 h2 => ?_⟩
 ·rcases Int.lt_trichotomy a b with h | rfl | h
  ·exact .inl (zbc h)
  ·exact .inr (.inl (zcr _))
  ·exact .inr (.inr (zbb h))
 ·rcases Int.lt_trichotomy a b with h | rfl | h
  ·rw [zbc h]; constructor <;> intro e <;> omega
  ·exact ⟨λ _ => rfl, λ _ => zcr _⟩
  ·rw [zbb h]; constructor <;> intro e <;> omega
 ·rcases Int.lt_trichotomy a b with h | rfl | h
  ·rw [zbc h, zbb h]; rfl
  ·rw [zcr]; rfl
  ·rw [zbb h, zbc h]
 ·have k : ∀ x y : Int, cmI x y = -1 -> x < y := λ x y e => by
   rcases Int.lt_trichotomy x y with h | rfl | h
   ·exact h
   ·rw [zcr] at e; cases e
   ·rw [zbb h] at e; cases e
  exact zbc (Int.lt_trans (k _ _ h1) (k _ _ h2))
theorem zec (x y : UInt8) (a b : List UInt8) : Go.Op.bytesLess (x :: a) (y :: b) = true ↔ x.toNat < y.toNat \/ (x.toNat = y.toNat /\ Go.Op.bytesLess a b = true) := by
 simp [Go.Op.bytesLess, UInt8.lt_iff_toNat_lt, UInt8.toNat_inj]
theorem zdv : ∀ a : List UInt8, ¬ Go.Op.bytesLess a a = true
 | [] => by simp [Go.Op.bytesLess]
 | x :: a => by
  rw [zec]
  rintro (h | ⟨_, h⟩)
  ·omega
  ·exact zdv a h
theorem zl8 : ∀ a b : List UInt8, Go.Op.bytesLess a b = true \/ a = b \/ Go.Op.bytesLess b a = true
 | [], [] => .inr (.inl rfl)
 | [], _ :: _ => .inl rfl
 | _ :: _, [] => .inr (.inr rfl)
 | x :: a, y :: b => by
  rw [zec, zec]
  rcases Nat.lt_trichotomy x.toNat y.toNat with h | h | h
  ·exact .inl (.inl h)
  ·rcases zl8 a b with g | g | g
   ·exact .inl (.inr ⟨h, g⟩)
   ·exact .inr (.inl (by rw [UInt8.toNat_inj.1 h, g]))
   ·exact .inr (.inr (.inr ⟨h.symm, g⟩))
  ·exact .inr (.inr (.inl h))
theorem zed : ∀ a b c : List UInt8, Go.Op.bytesLess a b = true -> Go.Op.bytesLess b c = true -> Go.Op.bytesLess a c = true
 | _, [], _, h, _ => by cases h' : (by assumption : List UInt8) <;> simp [Go.Op.bytesLess] at h
 | _, _ :: _, [], _, h => by simp [Go.Op.bytesLess] at h
 | [], _ :: _, _ :: _, _, _ => rfl
 | x :: a, y :: b, z :: c, h1, h2 => by
  rw [zec] at *
  rcases h1 with h1 | ⟨h1, g1⟩ <;> rcases h2 with h2 | ⟨h2, g2⟩
  ·exact .inl (by omega)
  ·exact .inl (by omega)
  ·exact .inl (by omega)
  ·exact .inr ⟨by omega, zed a b c g1 g2⟩
def cmS (a b : ByteArray) : Int := if Go.Op.bytesLess a.toList b.toList = true then -1 else if Go.Op.bytesLess b.toList a.toList = true then 1 else 0
theorem zxh {a b : ByteArray} (h : a.toList = b.toList) : a = b := by
 have := beq_toListBytes a b
 rw [h, beq_self_eq_true] at this
 exact ze9.1 this
theorem Cm.str : Cm cmS := by
 refine ⟨λ a b => ?_, λ a b => ?_, λ a b => ?_, λ a b d h1 h2 => ?_⟩ <;> unfold cmS at *
 ·split
  ·exact .inl rfl
  ·split
   ·exact .inr (.inr rfl)
   ·exact .inr (.inl rfl)
 ·constructor
  ·intro h
   split at h
   ·cases h
   ·split at h
    ·cases h
    ·rename_i g1 g2
     rcases zl8 a.toList b.toList with g | g | g
     ·exact absurd g g1
     ·exact zxh g
     ·exact absurd g g2
  ·rintro rfl
   rw [if_neg (zdv _), if_neg (zdv _)]
 ·by_cases h1 : Go.Op.bytesLess a.toList b.toList = true
  ·have : ¬ Go.Op.bytesLess b.toList a.toList = true := λ h => zdv _ (zed _ _ _ h1 h)
   rw [if_neg this, if_pos h1, if_pos h1]; rfl
  ·by_cases h2 : Go.Op.bytesLess b.toList a.toList = true
   ·rw [if_pos h2, if_neg h1, if_pos h2]
   ·rw [if_neg h2, if_neg h1, if_neg h1, if_neg h2]; rfl
 ·have g1 : Go.Op.bytesLess a.toList b.toList = true := by
   by_cases h : Go.Op.bytesLess a.toList b.toList = true
   ·exact h
   ·rw [if_neg h] at h1; split at h1 <;> cases h1
  have g2 : Go.Op.bytesLess b.toList d.toList = true := by
   by_cases h : Go.Op.bytesLess b.toList d.toList = true
   ·exact h
   ·rw [if_neg h] at h2; split at h2 <;> cases h2
  rw [if_pos (zed _ _ _ g1 g2)]
def zmB {α β : Type} (c : α -> α -> Int) (d : β -> β -> Int) (x y : α × β) : Int := if c x.1 y.1 = 0 then d x.2 y.2 else c x.1 y.1
theorem Cm.lex {α β : Type} {c : α -> α -> Int} {d : β -> β -> Int} (hc : Cm c) (hd : Cm d) : Cm (zmB c d) := by
 refine ⟨λ a b => ?_, λ a b => ?_, λ a b => ?_, λ x y z h1 h2 => ?_⟩ <;> unfold zmB at *
 ·split
  ·exact hd.vals _ _
  ·exact hc.vals _ _
 ·constructor
  ·intro h
   split at h
   ·rename_i g
    exact Prod.ext ((hc.zero _ _).1 g) ((hd.zero _ _).1 h)
   ·exact absurd h (by assumption)
  ·rintro rfl
   rw [if_pos ((hc.zero _ _).2 rfl)]
   exact (hd.zero _ _).2 rfl
 ·rw [hc.anti a.1 b.1, hd.anti a.2 b.2]
  by_cases h : c a.1 b.1 = 0
  ·rw [if_pos h, if_pos (by omega)]
  ·rw [if_neg h, if_neg (by omega)]
 ·by_cases g1 : c x.1 y.1 = 0 <;> by_cases g2 : c y.1 z.1 = 0
  ·rw [if_pos g1] at h1
   rw [if_pos g2] at h2
   rw [(hc.zero _ _).1 g1, if_pos g2]
   exact hd.trans _ _ _ h1 h2
  ·rw [if_pos g1] at h1
   rw [if_neg g2] at h2
   rw [(hc.zero _ _).1 g1, if_neg g2]
   exact h2
  ·rw [if_neg g1] at h1
   rw [if_pos g2] at h2
   rw [<- (hc.zero _ _).1 g2, if_neg g1]
   exact h1
  ·rw [if_neg g1] at h1
   rw [if_neg g2] at h2
   have := hc.trans _ _ _ h1 h2
   rw [if_neg (by omega)]
   exact this
end
section
def ZB : List Int -> Int
 | [] => 0
 | y :: l => if y = 0 then ZB l else y
theorem zcz : ∀ (A B : List Int), ZB (ZB A :: B) = ZB (A ++ B)
 | [], B => by simp [ZB]
 | y :: A, B => by
  have ih := zcz A B
  by_cases h : y = 0
  ·have e1 : ZB (y :: A) = ZB A := if_pos h
   have e2 : ZB (y :: A ++ B) = ZB (A ++ B) := if_pos h
   rw [e1, e2, ih]
  ·have e1 : ZB (y :: A) = y := if_neg h
   have e2 : ZB (y :: A ++ B) = y := if_neg h
   rw [e1, e2]
   exact if_neg h
theorem ztA (L : List Int) (hL : L.length <= 100) : ∀ (d k f : Nat), k + d = L.length -> d < f -> ∃ y, (Zs 600).L f (zk L, 0, (L.length : Int), (k : Int)) = some y /\ ((ZB (L.drop k) = 0 /\ y = .inr 0) \/ (ZB (L.drop k) ≠ 0 /\ y = .inl (ZB (L.drop k), 0))) := by
 intro d
 induction d with
 | zero =>
  intro k f hk hf
  obtain ⟨f, rfl⟩ := pS hf
  rw [List.drop_eq_nil_of_le (by omega)]
  refine ⟨.inr 0, ?_, .inl ⟨rfl, rfl⟩⟩
  show (Zs 600).b _ _ ((Zs 600).L f) some = _
  have e2 : decide ((k : Int) < (L.length : Int)) = false := dF (by omega)
  simp only [Zs]
  simp only [e2]
 | succ d ih =>
  intro k f hk hf
  obtain ⟨f, rfl⟩ := pS hf
  have hkl : k < L.length := by omega
  obtain ⟨y, r1, r2⟩ := ih (k + 1) f (by omega) (by omega)
  have e2 : decide ((k : Int) < (L.length : Int)) = true := dT (by omega)
  have h0 : 0 <= (k : Int) := by omega
  have hg := JA L k hkl
  have hd : L.drop k = L[k] :: L.drop (k + 1) := List.drop_eq_getElem_cons hkl
  rw [hd]
  by_cases hz : L[k] = 0
  ·have e3 : ZB (L[k] :: L.drop (k + 1)) = ZB (L.drop (k + 1)) := if_pos hz
   rw [e3]
   refine ⟨y, ?_, r2⟩
   show (Zs 600).b _ _ ((Zs 600).L f) some = _
   generalize (Zs 600).L f = Lf at r1 |-
   have e4 : (L[k] != 0) = false := by simp [hz]
   simp only [Zs]
   simp only [e2, h0, if_true, Int.toNat_natCast, hg, I, List.getElem?_cons_zero, e4, zi (show k < 1000000 by omega)]
   exact r1
  ·have e3 : ZB (L[k] :: L.drop (k + 1)) = L[k] := if_neg hz
   rw [e3]
   refine ⟨.inl (L[k], 0), ?_, .inr ⟨hz, rfl⟩⟩
   show (Zs 600).b _ _ ((Zs 600).L f) some = _
   have e4 : (L[k] != 0) = true := by simp [hz]
   simp only [Zs]
   simp only [e2, h0, if_true, Int.toNat_natCast, hg, I, List.getElem?_cons_zero, e4]
theorem ztB (L : List Int) (hL : L.length <= 100) : za1 600 (zk L) = some (ZB L) := by
 obtain ⟨y, h1, h2⟩ := ztA L hL L.length 0 600 (by omega) (by omega)
 rw [List.drop_zero] at h2
 replace h1 : (Zs 600).L 600 (zk L, 0, (L.length : Int), 0) = some y := h1
 simp only [za1, FSpec.d, zjZ, zjW, JB, h1]
 rcases h2 with ⟨h2, rfl⟩ | ⟨h2, rfl⟩
 ·rw [h2]
 ·rfl
theorem zqL (a b : ByteArray) : zbK 600 (a, b) = some (cmS a b) := by
 have e1 : ∀ x : ByteArray, zc8 600 x = some false := λ x => by
  simp only [zc8, FSpec.d, zhh, beq_self_eq_true, Bool.not_true]
 simp only [zbK, FSpec.d, zhg, e1]
 unfold cmS
 cases h1 : Go.Op.bytesLess a.toList b.toList with
 | true => rfl
 | false =>
  rcases zl8 a.toList b.toList with h | h | h
  ·rw [h1] at h; cases h
  ·have e2 : (a.toList == b.toList) = true := by rw [h]; exact beq_self_eq_true _
   have e3 : ¬ Go.Op.bytesLess b.toList a.toList = true := by rw [h]; exact zdv _
   simp only [e2, Bool.or_true, Bool.not_true, Bool.false_eq_true, if_false]
   rw [if_neg e3]
  ·have e2 : (a.toList == b.toList) = false := by
    cases e : a.toList == b.toList with
    | false => rfl
    | true => rw [eq_of_beq e] at h; exact absurd h (zdv _)
   simp only [e2, Bool.or_false, Bool.not_false, Bool.false_eq_true, if_false]
   rw [if_pos h]
theorem zxr (a b : ByteArray) : zc7 600 (a, b) = some (cmS a b) := by
 have h := zqL a b
 have e1 : ∀ x : ByteArray, zc8 600 x = some false := λ x => by
  simp only [zc8, FSpec.d, zhh, beq_self_eq_true, Bool.not_true]
 simp only [zbK, FSpec.d, zhg, e1] at h
 simp only [zc7, FSpec.d, zki]
 exact h
theorem zqK (a b : Int) : za2 600 (a, b) = some (cmI a b) := by
 have e1 : ∀ x : Int, zhf 600 x = some false := λ x => by
  simp only [zhf, FSpec.d, zke, bne_self_eq_false]
 simp only [za2, FSpec.d, zj0, e1]
 rcases Int.lt_trichotomy a b with h | rfl | h
 ·rw [zbc h, decide_eq_true h]
 ·rw [zcr, decide_eq_false (by omega)]
 ·rw [zbb h, decide_eq_false (by omega), decide_eq_true (show a > b from h)]
def cE : RT1 -> RT1 -> Int := zmB cmS (zmB cmS (zmB cmS (zmB cmS (zmB cmI (zmB cmI (zmB cmI (zmB cmI (zmB cmI cmU))))))))
theorem Cm.pick : Cm cE := Cm.str.lex (Cm.str.lex (Cm.str.lex (Cm.str.lex (Cm.int.lex (Cm.int.lex (Cm.int.lex (Cm.int.lex (Cm.int.lex Cm.unit))))))))
def nsS (p q : RT1) : List Int := [cmS p.1 q.1, cmS p.2.1 q.2.1, cmS p.2.2.1 q.2.2.1, cmS p.2.2.2.1 q.2.2.2.1]
def nsI (p q : RT1) : List Int := [cmI p.2.2.2.2.1 q.2.2.2.2.1, cmI p.2.2.2.2.2.1 q.2.2.2.2.2.1, cmI p.2.2.2.2.2.2.1 q.2.2.2.2.2.2.1, cmI p.2.2.2.2.2.2.2.1 q.2.2.2.2.2.2.2.1, cmI p.2.2.2.2.2.2.2.2.1 q.2.2.2.2.2.2.2.2.1]
theorem zxl (p q : RT1) : cE p q = ZB (nsS p q ++ nsI p q) := rfl
theorem zs1 (p q : RT1) : zn2 600 (p, q) = some (cE p q) := by
 have h1 : zkc 600 (Jn p, Jn q) = some (ZB (nsS p q)) := by
  have := ztB (nsS p q) (by simp [nsS])
  simp only [zkc, FSpec.d, zkd, zqL]
  replace this : za1 600 [[AV.v (.int .i64 (cmS p.1 q.1))], [AV.v (.int .i64 (cmS p.2.1 q.2.1))], [AV.v (.int .i64 (cmS p.2.2.1 q.2.2.1))], [AV.v (.int .i64 (cmS p.2.2.2.1 q.2.2.2.1))]] = some (ZB (nsS p q)) := this
  simp only [this]
 have h2 := ztB (ZB (nsS p q) :: nsI p q) (by simp [nsI])
 rw [zcz, <- zxl] at h2
 simp only [zn2, FSpec.d, zsG, h1, zqK]
 replace h2 : za1 600 [[AV.v (.int .i64 (ZB (nsS p q)))], [AV.v (.int .i64 (cmI p.2.2.2.2.1 q.2.2.2.2.1))], [AV.v (.int .i64 (cmI p.2.2.2.2.2.1 q.2.2.2.2.2.1))], [AV.v (.int .i64 (cmI p.2.2.2.2.2.2.1 q.2.2.2.2.2.2.1))], [AV.v (.int .i64 (cmI p.2.2.2.2.2.2.2.1 q.2.2.2.2.2.2.2.1))], [AV.v (.int .i64 (cmI p.2.2.2.2.2.2.2.2.1 q.2.2.2.2.2.2.2.2.1))]] = some (cE p q) := h2
 simp only [h2]
theorem zbF (y : RT4) (k f : Nat) (hk : k < 4) (n : Int) (hn : [y.1, y.2.1, y.2.2.1, y.2.2.2.1][k]? = some n) : (Zf 600).L (f + 1) (y, (k : Int)) = (if n = 0 then (Zf 600).L f (y, ((k + 1 : Nat) : Int)) else some (.inl n)) := by
 show (Zf 600).b _ _ ((Zf 600).L f) some = _
 obtain ⟨Lf, hLf⟩ : ∃ Lf, Lf = (Zf 600).L f := ⟨_, rfl⟩
 rw [<- hLf]
 have hn' : [(AV.v (.int .i64 y.1)), (AV.v (.int .i64 y.2.1)), (AV.v (.int .i64 y.2.2.1)), (AV.v (.int .i64 y.2.2.2.1))][k * 1]? = some (AV.v (.int .i64 n)) := by
  rcases (show k = 0 \/ k = 1 \/ k = 2 \/ k = 3 by omega) with rfl | rfl | rfl | rfl <;> simp_all
 have e1 : decide ((k : Int) < 4) = true := dT (by omega)
 have e2 : 0 <= (k : Int) /\ (k : Int) < 4 := by omega
 simp only [Zf]
 simp only [e1, e2, decide_true, and_self, if_true, Int.toNat_natCast, hn', zi (show k < 1000000 by omega)]
 by_cases h : n = 0
 ·subst h
  simp only [bne_self_eq_false]
  exact (if_pos trivial).symm
 ·have e3 : (n != 0) = true := by simp [h]
  simp only [e3]
  exact (if_neg h).symm
theorem zty (y : RT4) (f : Nat) : (Zf 600).L (f + 1) (y, 4) = some (.inr ()) := by
 show (Zf 600).b _ _ ((Zf 600).L f) some = _
 simp only [Zf]
 rfl
theorem or4 (y1 y2 y3 y4 : Int) : ∃ y, zf2 600 ((y1, y2, y3, y4, ()), 0) = some y /\ ((ZB [y1, y2, y3, y4] = 0 /\ y = .inr ()) \/ (ZB [y1, y2, y3, y4] ≠ 0 /\ y = .inl (ZB [y1, y2, y3, y4]))) := by
 have s0 := zbF (y1, y2, y3, y4, ()) 0 599 (by omega) y1 rfl
 have s1 := zbF (y1, y2, y3, y4, ()) 1 598 (by omega) y2 rfl
 have s2 := zbF (y1, y2, y3, y4, ()) 2 597 (by omega) y3 rfl
 have s3 := zbF (y1, y2, y3, y4, ()) 3 596 (by omega) y4 rfl
 have s4 := zty (y1, y2, y3, y4, ()) 595
 have e0 : zf2 600 ((y1, y2, y3, y4, ()), 0) = (Zf 600).L (599 + 1) ((y1, y2, y3, y4, ()), ((0 : Nat) : Int)) := rfl
 rw [e0, s0]
 by_cases h1 : y1 = 0
 case neg => exact ⟨.inl y1, if_neg h1, .inr ⟨by rw [show ZB [y1, y2, y3, y4] = y1 from if_neg h1]; exact h1, by rw [show ZB [y1, y2, y3, y4] = y1 from if_neg h1]⟩⟩
 rw [if_pos h1, show ZB [y1, y2, y3, y4] = ZB [y2, y3, y4] from if_pos h1]
 replace s1 := s1
 rw [show (Zf 600).L 599 ((y1, y2, y3, y4, ()), ((0 + 1 : Nat) : Int)) = _ from s1]
 by_cases h2 : y2 = 0
 case neg => exact ⟨.inl y2, if_neg h2, .inr ⟨by rw [show ZB [y2, y3, y4] = y2 from if_neg h2]; exact h2, by rw [show ZB [y2, y3, y4] = y2 from if_neg h2]⟩⟩
 rw [if_pos h2, show ZB [y2, y3, y4] = ZB [y3, y4] from if_pos h2]
 rw [show (Zf 600).L 598 ((y1, y2, y3, y4, ()), ((1 + 1 : Nat) : Int)) = _ from s2]
 by_cases h3 : y3 = 0
 case neg => exact ⟨.inl y3, if_neg h3, .inr ⟨by rw [show ZB [y3, y4] = y3 from if_neg h3]; exact h3, by rw [show ZB [y3, y4] = y3 from if_neg h3]⟩⟩
 rw [if_pos h3, show ZB [y3, y4] = ZB [y4] from if_pos h3]
 rw [show (Zf 600).L 597 ((y1, y2, y3, y4, ()), ((2 + 1 : Nat) : Int)) = _ from s3]
 by_cases h4 : y4 = 0
 case neg => exact ⟨.inl y4, if_neg h4, .inr ⟨by rw [show ZB [y4] = y4 from if_neg h4]; exact h4, by rw [show ZB [y4] = y4 from if_neg h4]⟩⟩
 rw [if_pos h4, show ZB [y4] = 0 from if_pos h4]
 exact ⟨.inr (), s4, .inl ⟨rfl, rfl⟩⟩
theorem srcr (p q : RT2) : zhd 600 (p, q) = some (ZB [cmS p.1 q.1, cmS p.2.1 q.2.1, cmS p.2.2.1 q.2.2.1, cmS p.2.2.2.1 q.2.2.2.1]) := by
 obtain ⟨y, h1, h2⟩ := or4 (cmS p.1 q.1) (cmS p.2.1 q.2.1) (cmS p.2.2.1 q.2.2.1) (cmS p.2.2.2.1 q.2.2.2.1)
 simp only [zhd, FSpec.d, zj8, zxr, h1]
 rcases h2 with ⟨h2, rfl⟩ | ⟨h2, rfl⟩
 ·rw [h2]
 ·rfl
end
section
def pr5 (y : RT5) (k : Nat) : Int × Int := match k with
 | 0 => (y.1, y.2.1)
 | 1 => (y.2.2.1, y.2.2.2.1)
 | 2 => (y.2.2.2.2.1, y.2.2.2.2.2.1)
 | 3 => (y.2.2.2.2.2.2.1, y.2.2.2.2.2.2.2.1)
 | _ => (y.2.2.2.2.2.2.2.2.1, y.2.2.2.2.2.2.2.2.2.1)
theorem zoX (y : RT5) (k f : Nat) (hk : k < 5) : (jA 600).L (f + 1) (y, (k : Int)) = (if cmI (pr5 y k).1 (pr5 y k).2 = 0 then (jA 600).L f (y, ((k + 1 : Nat) : Int)) else some (.inl (cmI (pr5 y k).1 (pr5 y k).2))) := by
 show (jA 600).b _ _ ((jA 600).L f) some = _
 obtain ⟨Lf, hLf⟩ : ∃ Lf, Lf = (jA 600).L f := ⟨_, rfl⟩
 rw [<- hLf]
 have hn' : ∃ r, ([(AV.v (.int .i64 y.1)), (AV.v (.int .i64 y.2.1)), (AV.v (.int .i64 y.2.2.1)), (AV.v (.int .i64 y.2.2.2.1)), (AV.v (.int .i64 y.2.2.2.2.1)), (AV.v (.int .i64 y.2.2.2.2.2.1)), (AV.v (.int .i64 y.2.2.2.2.2.2.1)), (AV.v (.int .i64 y.2.2.2.2.2.2.2.1)), (AV.v (.int .i64 y.2.2.2.2.2.2.2.2.1)), (AV.v (.int .i64 y.2.2.2.2.2.2.2.2.2.1))]).drop (k * 2) = AV.v (.int .i64 (pr5 y k).1) :: AV.v (.int .i64 (pr5 y k).2) :: r := by
  rcases (show k = 0 \/ k = 1 \/ k = 2 \/ k = 3 \/ k = 4 by omega) with rfl | rfl | rfl | rfl | rfl <;> exact ⟨_, rfl⟩
 obtain ⟨r, hn'⟩ := hn'
 have e1 : decide ((k : Int) < 5) = true := dT (by omega)
 have e2 : 0 <= (k : Int) /\ (k : Int) < 5 := by omega
 simp only [jA]
 simp only [e1, e2, decide_true, and_self, if_true, Int.toNat_natCast, hn', zi (show k < 1000000 by omega)]
 rcases Int.lt_trichotomy (pr5 y k).1 (pr5 y k).2 with h | h | h
 ·rw [zbc h, decide_eq_true h]
  exact (if_neg (by decide)).symm
 ·rw [h, zcr, decide_eq_false (by omega)]
  exact (if_pos rfl).symm
 ·rw [zbb h, decide_eq_false (by omega), decide_eq_true (show (pr5 y k).1 > (pr5 y k).2 from h)]
  exact (if_neg (by decide)).symm
theorem ztz (y : RT5) (f : Nat) : (jA 600).L (f + 1) (y, 5) = some (.inr ()) := by
 show (jA 600).b _ _ ((jA 600).L f) some = _
 simp only [jA]
 rfl
theorem or5 (y : RT5) : ∃ z, zqA 600 (y, 0) = some z /\ ((ZB ((List.range' 0 5).map λ k => cmI (pr5 y k).1 (pr5 y k).2) = 0 /\ z = .inr ()) \/ (ZB ((List.range' 0 5).map λ k => cmI (pr5 y k).1 (pr5 y k).2) ≠ 0 /\ z = .inl (ZB ((List.range' 0 5).map λ k => cmI (pr5 y k).1 (pr5 y k).2)))) := by
 have key : ∀ (d k f : Nat), k + d = 5 -> d < f -> ∃ z, (jA 600).L f (y, (k : Int)) = some z /\ ((ZB ((List.range' k d).map λ k => cmI (pr5 y k).1 (pr5 y k).2) = 0 /\ z = .inr ()) \/ (ZB ((List.range' k d).map λ k => cmI (pr5 y k).1 (pr5 y k).2) ≠ 0 /\ z = .inl (ZB ((List.range' k d).map λ k => cmI (pr5 y k).1 (pr5 y k).2)))) := by
  intro d
  induction d with
  | zero =>
   intro k f hk hf
   obtain ⟨f, rfl⟩ := pS hf
   obtain rfl : k = 5 := by omega
   exact ⟨.inr (), ztz y f, .inl ⟨rfl, rfl⟩⟩
  | succ d ih =>
   intro k f hk hf
   obtain ⟨f, rfl⟩ := pS hf
   obtain ⟨z, r1, r2⟩ := ih (k + 1) f (by omega) (by omega)
   rw [zoX y k f (by omega)]
   have e : ((List.range' k (d + 1)).map λ k => cmI (pr5 y k).1 (pr5 y k).2) = cmI (pr5 y k).1 (pr5 y k).2 :: ((List.range' (k + 1) d).map λ k => cmI (pr5 y k).1 (pr5 y k).2) := rfl
   rw [e]
   by_cases h : cmI (pr5 y k).1 (pr5 y k).2 = 0
   ·have e2 : ZB (cmI (pr5 y k).1 (pr5 y k).2 :: ((List.range' (k + 1) d).map λ k => cmI (pr5 y k).1 (pr5 y k).2)) = ZB ((List.range' (k + 1) d).map λ k => cmI (pr5 y k).1 (pr5 y k).2) := if_pos h
    rw [e2]
    exact ⟨z, (if_pos h).trans r1, r2⟩
   ·have e2 : ZB (cmI (pr5 y k).1 (pr5 y k).2 :: ((List.range' (k + 1) d).map λ k => cmI (pr5 y k).1 (pr5 y k).2)) = cmI (pr5 y k).1 (pr5 y k).2 := if_neg h
    rw [e2]
    exact ⟨_, if_neg h, .inr ⟨h, rfl⟩⟩
 exact key 5 0 600 rfl (by omega)
theorem zs2 (p q : RT1) : zn1 600 (p, q) = some (cE p q) := by
 have h1 : zhd 600 (Jn p, Jn q) = some (ZB (nsS p q)) := srcr _ _
 have hc : cE p q = if ZB (nsS p q) = 0 then ZB (nsI p q) else ZB (nsS p q) := by
  rw [zxl, <- zcz]; rfl
 obtain ⟨z, h2, h3⟩ := or5 (p.2.2.2.2.1, q.2.2.2.2.1, p.2.2.2.2.2.1, q.2.2.2.2.2.1, p.2.2.2.2.2.2.1, q.2.2.2.2.2.2.1, p.2.2.2.2.2.2.2.1, q.2.2.2.2.2.2.2.1, p.2.2.2.2.2.2.2.2.1, q.2.2.2.2.2.2.2.2.1, ())
 have e : ((List.range' 0 5).map λ k => cmI (pr5 (p.2.2.2.2.1, q.2.2.2.2.1, p.2.2.2.2.2.1, q.2.2.2.2.2.1, p.2.2.2.2.2.2.1, q.2.2.2.2.2.2.1, p.2.2.2.2.2.2.2.1, q.2.2.2.2.2.2.2.1, p.2.2.2.2.2.2.2.2.1, q.2.2.2.2.2.2.2.2.1, ()) k).1 (pr5 (p.2.2.2.2.1, q.2.2.2.2.1, p.2.2.2.2.2.1, q.2.2.2.2.2.1, p.2.2.2.2.2.2.1, q.2.2.2.2.2.2.1, p.2.2.2.2.2.2.2.1, q.2.2.2.2.2.2.2.1, p.2.2.2.2.2.2.2.2.1, q.2.2.2.2.2.2.2.2.1, ()) k).2) = nsI p q := rfl
 rw [e] at h3
 simp only [zn1, FSpec.d, zsF, h1]
 by_cases hz : ZB (nsS p q) = 0
 ·have e1 : (ZB (nsS p q) != 0) = false := by simp [hz]
  simp only [e1, h2]
  rw [hc, if_pos hz]
  rcases h3 with ⟨h3, rfl⟩ | ⟨h3, rfl⟩
  ·rw [h3]
  ·rfl
 ·have e1 : (ZB (nsS p q) != 0) = true := by simp [hz]
  simp only [e1]
  rw [hc, if_neg hz]
def cT (p q : RT1) : Int := if cmI (tmP p) (tmP q) = 0 then cE p q else cmI (tmP p) (tmP q)
theorem zAQ (p q : RT1) : zlP 600 (p, q) = some (cT p q) := by
 have h := ztB [cmI (tmP p) (tmP q), cE p q] (by simp)
 have e : ZB [cmI (tmP p) (tmP q), cE p q] = cT p q := by
  by_cases h : cmI (tmP p) (tmP q) = 0
  ·rw [show ZB [cmI (tmP p) (tmP q), cE p q] = ZB [cE p q] from if_pos h, show cT p q = cE p q from if_pos h]
   by_cases h2 : cE p q = 0
   ·rw [show ZB [cE p q] = 0 from if_pos h2, h2]
   ·exact if_neg h2
  ·rw [show ZB [cmI (tmP p) (tmP q), cE p q] = cmI (tmP p) (tmP q) from if_neg h, show cT p q = cmI (tmP p) (tmP q) from if_neg h]
 rw [e] at h
 simp only [zlP, FSpec.d, zsy, zqK, zs1]
 replace h : za1 600 [[AV.v (.int .i64 (cmI p.2.2.2.2.1 q.2.2.2.2.1))], [AV.v (.int .i64 (cE p q))]] = some (cT p q) := h
 simp only [h]
theorem zAR (p q : RT1) : zlz 600 (p, q) = some (cT p q) := by
 simp only [zlz, FSpec.d, zsj, zs2]
 unfold cT
 rcases Int.lt_trichotomy (tmP p) (tmP q) with h | h | h
 ·rw [zbc h, decide_eq_true h]; rfl
 ·rw [h, zcr, decide_eq_false (by simp only [tmP] at h; omega), decide_eq_false (by simp only [tmP] at h; omega)]; rfl
 ·rw [zbb h, decide_eq_false (by simp only [tmP] at h; omega), decide_eq_true (show p.2.2.2.2.1 > q.2.2.2.2.1 from h)]; rfl
def zqV (m : RT1) : List RT1 -> RT1
 | [] => m
 | p :: r => zqV (if cT p m < 0 then p else m) r
theorem zjt (P : List RT1) (hP : P.length <= 500) (c : RT1) : ∀ (d k f : Nat) (m : RT1), k + d = P.length -> d < f -> (j9 600).L f (P.map zj, (k : Int), c, m) = some (c, zqV m (P.drop k)) := by
 intro d
 induction d with
 | zero =>
  intro k f m hk hf
  obtain ⟨f, rfl⟩ := pS hf
  rw [List.drop_eq_nil_of_le (by omega)]
  show (j9 600).b _ _ ((j9 600).L f) some = _
  have e2 : decide ((k : Int) < (P.length : Int)) = false := dF (by omega)
  simp only [j9]
  simp only [List.length_map, e2, zqV]
 | succ d ih =>
  intro k f m hk hf
  obtain ⟨f, rfl⟩ := pS hf
  have hkl : k < P.length := by omega
  have r1 := ih (k + 1) f (if cT P[k] m < 0 then P[k] else m) (by omega) (by omega)
  rw [List.drop_eq_getElem_cons hkl]
  show (j9 600).b _ _ ((j9 600).L f) some = _
  generalize (j9 600).L f = Lf at r1 |-
  have e2 : decide ((k : Int) < (P.length : Int)) = true := dT (by omega)
  have h0 : 0 <= (k : Int) := by omega
  simp only [j9]
  simp only [List.length_map, e2, h0, if_true, Int.toNat_natCast, zaC P k hkl, zT, zAR, zi (show k < 1000000 by omega), zqV]
  by_cases h : cT P[k] m < 0
  ·rw [if_pos h] at r1 |-
   simp only [h, decide_true]
   exact r1
  ·rw [if_neg h] at r1 |-
   simp only [h, decide_false]
   exact r1
theorem zjs (P : List RT1) (hP : P.length <= 500) (c : RT1) : ∀ (d k f : Nat) (m : RT1), k + d = P.length -> d < f -> (Z1 600).L f (P.map zj, (k : Int), c, m) = some (c, zqV m (P.drop k)) := by
 intro d
 induction d with
 | zero =>
  intro k f m hk hf
  obtain ⟨f, rfl⟩ := pS hf
  rw [List.drop_eq_nil_of_le (by omega)]
  show (Z1 600).b _ _ ((Z1 600).L f) some = _
  have e2 : decide ((k : Int) < (P.length : Int)) = false := dF (by omega)
  simp only [Z1]
  simp only [List.length_map, e2, zqV]
 | succ d ih =>
  intro k f m hk hf
  obtain ⟨f, rfl⟩ := pS hf
  have hkl : k < P.length := by omega
  have r1 := ih (k + 1) f (if cT P[k] m < 0 then P[k] else m) (by omega) (by omega)
  rw [List.drop_eq_getElem_cons hkl]
  show (Z1 600).b _ _ ((Z1 600).L f) some = _
  generalize (Z1 600).L f = Lf at r1 |-
  have e2 : decide ((k : Int) < (P.length : Int)) = true := dT (by omega)
  have h0 : 0 <= (k : Int) := by omega
  simp only [Z1]
  simp only [List.length_map, e2, h0, if_true, Int.toNat_natCast, zaC P k hkl, zT, zAQ, zi (show k < 1000000 by omega), zqV]
  by_cases h : cT P[k] m < 0
  ·rw [if_pos h] at r1 |-
   simp only [h, decide_true]
   exact r1
  ·rw [if_neg h] at r1 |-
   simp only [h, decide_false]
   exact r1
def nmF : List RT1 -> RT1
 | [] => ((⟨#[]⟩ : ByteArray), (⟨#[]⟩ : ByteArray), (⟨#[]⟩ : ByteArray), (⟨#[]⟩ : ByteArray), 0, 0, 0, 0, 0, ())
 | p :: r => zqV p r
theorem zxP (P : List RT1) (h0 : P ≠ []) (hP : P.length <= 500) : znS 600 (P.map zj) = some (nmF P) := by
 have hp := List.length_pos_iff.2 h0
 obtain ⟨p, r, rfl⟩ := List.exists_cons_of_ne_nil h0
 have h1 := zjt (p :: r) hP ((⟨#[]⟩ : ByteArray), (⟨#[]⟩ : ByteArray), (⟨#[]⟩ : ByteArray), (⟨#[]⟩ : ByteArray), 0, 0, 0, 0, 0, ()) r.length 1 600 p (by simp; omega) (by simp at hP; omega)
 replace h1 : (j9 600).L 600 ((p :: r).map zj, 1, ((⟨#[]⟩ : ByteArray), (⟨#[]⟩ : ByteArray), (⟨#[]⟩ : ByteArray), (⟨#[]⟩ : ByteArray), 0, 0, 0, 0, 0, ()), p) = some (((⟨#[]⟩ : ByteArray), (⟨#[]⟩ : ByteArray), (⟨#[]⟩ : ByteArray), (⟨#[]⟩ : ByteArray), 0, 0, 0, 0, 0, ()), nmF (p :: r)) := h1
 have e1 : ((p :: r).map zj)[(0 : Int).toNat]? = some (zj p) := rfl
 have e0 : (0 : Int) <= 0 := by omega
 simp only [znS, FSpec.d, zsf, zqk, e0, if_true, e1, zT, h1]
theorem zxO (P : List RT1) (hP : P.length <= 500) : znZ 600 (P.map zj) = some (nmF P) := by
 by_cases h0 : P = []
 ·subst h0; kernel_rfl
 have hp := List.length_pos_iff.2 h0
 obtain ⟨p, r, rfl⟩ := List.exists_cons_of_ne_nil h0
 have h1 := zjs (p :: r) hP ((⟨#[]⟩ : ByteArray), (⟨#[]⟩ : ByteArray), (⟨#[]⟩ : ByteArray), (⟨#[]⟩ : ByteArray), 0, 0, 0, 0, 0, ()) r.length 1 600 p (by simp; omega) (by simp at hP; omega)
 replace h1 : (Z1 600).L 600 ((p :: r).map zj, 1, ((⟨#[]⟩ : ByteArray), (⟨#[]⟩ : ByteArray), (⟨#[]⟩ : ByteArray), (⟨#[]⟩ : ByteArray), 0, 0, 0, 0, 0, ()), p) = some (((⟨#[]⟩ : ByteArray), (⟨#[]⟩ : ByteArray), (⟨#[]⟩ : ByteArray), (⟨#[]⟩ : ByteArray), 0, 0, 0, 0, 0, ()), nmF (p :: r)) := h1
 have e1 : ((p :: r).map zj)[(0 : Int).toNat]? = some (zj p) := rfl
 have e0 : (0 : Int) <= 0 := by omega
 have e2 : (((p :: r).length : Int) == 0) = false := by simp; omega
 have e3 : decide (((p :: r).length : Int) < 1) = false := by rw [decide_eq_false_iff_not]; simp; omega
 have h2 : zjS 600 ((p :: r).map zj) = some (nmF (p :: r)) := by
  simp only [zjS, FSpec.d, zjV, zjT, List.length_map, e3, e0, if_true, e1, zT, h1]
 simp only [znZ, FSpec.d, zsx, List.length_map, e2, h2]
def J8 : List RT1 -> Bool
 | a :: b :: r => (cE a b == -1) && J8 (b :: r)
 | _ => true
theorem zxk (a b : RT1) : decide (cE a b >= 0) = !(cE a b == -1) := by
 rcases Cm.pick.vals a b with h | h | h <;> rw [h] <;> rfl
theorem zg5 (P : List RT1) (hP : P.length <= 500) : ∀ (d k f : Nat), k + 1 + d = P.length -> d < f -> ∃ y, (jm 600).L f (P.map zj, ((k + 1 : Nat) : Int)) = some y /\ ((J8 (P.drop k) = true /\ y = .inr ()) \/ (J8 (P.drop k) = false /\ y = .inl false)) := by
 intro d
 induction d with
 | zero =>
  intro k f hk hf
  obtain ⟨f, rfl⟩ := pS hf
  have hkl : k < P.length := by omega
  refine ⟨.inr (), ?_, .inl ⟨?_, rfl⟩⟩
  ·show (jm 600).b _ _ ((jm 600).L f) some = _
   have e2 : decide (((k + 1 : Nat) : Int) < (P.length : Int)) = false := dF (by omega)
   simp only [jm]
   simp only [List.length_map, e2]
  ·rw [List.drop_eq_getElem_cons hkl, List.drop_eq_nil_of_le (by omega)]
   rfl
 | succ d ih =>
  intro k f hk hf
  obtain ⟨f, rfl⟩ := pS hf
  have hkl : k < P.length := by omega
  have hkl' : k + 1 < P.length := by omega
  obtain ⟨y, r1, r2⟩ := ih (k + 1) f (by omega) (by omega)
  have e2 : decide (((k + 1 : Nat) : Int) < (P.length : Int)) = true := dT (by omega)
  have h0 : 0 <= ((k + 1 : Nat) : Int) := by omega
  have h0' : 0 <= (k : Int) := by omega
  have e3 : i64 (((k + 1 : Nat) : Int) - 1) = (k : Int) := by rw [zG (by omega)]; omega
  have ed : J8 (P.drop k) = ((cE P[k] P[k + 1] == -1) && J8 (P.drop (k + 1))) := by
   rw [List.drop_eq_getElem_cons hkl, List.drop_eq_getElem_cons hkl']
   rfl
  rw [ed]
  cases hc : cE P[k] P[k + 1] == -1 with
  | false =>
   refine ⟨.inl false, ?_, .inr ⟨rfl, rfl⟩⟩
   show (jm 600).b _ _ ((jm 600).L f) some = _
   simp only [jm]
   simp only [List.length_map, e2, e3, h0, h0', if_true, Int.toNat_natCast, zaC P k hkl, zaC P (k + 1) hkl', zT, zs1, zxk, hc, Bool.not_false]
  | true =>
   refine ⟨y, ?_, r2⟩
   show (jm 600).b _ _ ((jm 600).L f) some = _
   generalize (jm 600).L f = Lf at r1 |-
   simp only [jm]
   simp only [List.length_map, e2, e3, h0, h0', if_true, Int.toNat_natCast, zaC P k hkl, zaC P (k + 1) hkl', zT, zs1, zxk, hc, Bool.not_true, zi (show k + 1 < 1000000 by omega)]
   exact r1
theorem zpq (P : List RT1) (h0 : P ≠ []) (hP : P.length <= 500) : znY 600 (P.map zj) = some (J8 P) := by
 have hp := List.length_pos_iff.2 h0
 obtain ⟨y, h1, h2⟩ := zg5 P hP (P.length - 1) 0 600 (by omega) (by omega)
 rw [List.drop_zero] at h2
 replace h1 : (jm 600).L 600 (P.map zj, 1) = some y := h1
 simp only [znY, FSpec.d, zsw, zqx, h1]
 rcases h2 with ⟨h2, rfl⟩ | ⟨h2, rfl⟩ <;> rw [h2]
theorem zna : ∀ {a : RT1} {P : List RT1}, J8 (a :: P) = true -> (∀ p ∈ P, cE a p = -1) /\ J8 P = true
 | a, [], _ => ⟨λ p h => (by cases h), rfl⟩
 | a, b :: r, h => by
  have h' : ((cE a b == -1) && J8 (b :: r)) = true := h
  rw [Bool.and_eq_true, beq_iff_eq] at h'
  obtain ⟨h1, h2⟩ := h'
  refine ⟨λ p hp => ?_, h2⟩
  rcases List.mem_cons.1 hp with rfl | hp
  ·exact h1
  ·exact Cm.pick.trans _ _ _ h1 ((zna h2).1 p hp)
theorem zfP : ∀ {P : List RT1}, J8 P = true -> P.Pairwise λ a b => a ≠ b
 | [], _ => .nil
 | a :: P, h => by
  obtain ⟨h1, h2⟩ := zna h
  refine .cons (λ b hb e => ?_) (zfP h2)
  have h3 := h1 b hb
  rw [e, (Cm.pick.zero b b).2 rfl] at h3
  cases h3
end
section
theorem zcQ {α : Type} : ∀ (vs A M B : List α), M.length = vs.length -> splice (A ++ (M ++ B)) A.length vs = A ++ (vs ++ B)
 | [], A, M, B, h => by
  have : M = [] := List.length_eq_zero_iff.1 h
  subst this; rfl
 | v :: r, A, m :: M, B, h => by
  have ih := zcQ r (A ++ [v]) M B (by simpa using h)
  show splice ((A ++ (m :: M ++ B)).set A.length v) (A.length + 1) r = _
  rw [List.set_append_right _ _ (Nat.le_refl _), Nat.sub_self]
  have e : A ++ (m :: M ++ B).set 0 v = (A ++ [v]) ++ (M ++ B) := by simp
  have e2 : A.length + 1 = (A ++ [v]).length := by simp
  rw [e, e2, ih]
  simp
theorem zth (O : List RT1) (x : RT1) (k : Nat) (hk : k <= O.length) : splice (splice (fl zj (O ++ [x])) ((k + 1) * 9) (((fl zj (O ++ [x])).drop (k * 9)).take ((O.length - k) * 9))) (k * 9) (zj x) = fl zj (O.take k ++ x :: O.drop k) := by
 have hA : (O.take k).length = k := by simp; omega
 have hB : (O.drop k).length = O.length - k := by simp
 have app : ∀ A B : List RT1, fl zj (A ++ B) = fl zj A ++ fl zj B := λ A B => by simp [fl]
 have one : ∀ (a : RT1) (B : List RT1), fl zj (a :: B) = zj a ++ fl zj B := λ a B => by simp [fl]
 obtain ⟨A, hAd⟩ : ∃ A, A = O.take k := ⟨_, rfl⟩
 obtain ⟨B, hBd⟩ : ∃ B, B = O.drop k := ⟨_, rfl⟩
 have hO : O = A ++ B := by rw [hAd, hBd, List.take_append_drop]
 rw [<- hAd] at hA |-
 rw [<- hBd] at hB |-
 have lA : (fl zj A).length = k * 9 := by rw [zjq, hA]
 have lB : (fl zj B).length = (O.length - k) * 9 := by rw [zjq, hB]
 have hX : fl zj (O ++ [x]) = fl zj A ++ (fl zj B ++ zj x) := by rw [hO, List.append_assoc, app, app, one]; simp [fl]
 rw [hX]
 have d1 : (fl zj A ++ (fl zj B ++ zj x)).drop (k * 9) = fl zj B ++ zj x := by rw [<- lA, List.drop_left]
 rw [d1, <- lB, List.take_left]
 -- the row's first cells, and what lies behind
 obtain ⟨M, N', e1, e2⟩ : ∃ M N' : List AV, fl zj B ++ zj x = M ++ N' /\ M.length = 9 := ⟨(fl zj B ++ zj x).take 9, (fl zj B ++ zj x).drop 9, (List.take_append_drop 9 _).symm, by simp [Zp]⟩
 have e3 : N'.length = (fl zj B).length := by
  have := congrArg List.length e1
  simp only [List.length_append, Zp] at this
  omega
 rw [e1]
 have s1 := zcQ (fl zj B) (fl zj A ++ M) N' [] e3
 have l1 : (fl zj A ++ M).length = (k + 1) * 9 := by rw [List.length_append, lA, e2]; omega
 rw [l1, List.append_nil, List.append_nil, List.append_assoc] at s1
 rw [s1, List.append_assoc]
 have s2 := zcQ (zj x) (fl zj A) M (fl zj B) (by rw [e2, Zp])
 rw [lA] at s2
 rw [s2, app, one]
open Classical in
noncomputable def zmw (x : RT1) (O : List RT1) (k : Nat) : List RT1 := if 0 < k /\ O[k - 1]? = some x then O else O.take k ++ x :: O.drop k
theorem zjv (P O : List RT1) (i : Nat) (hi : i < P.length) (hP : P.length <= 500) (hO : O.length <= 500) : ∀ (k f : Nat), k <= O.length -> k < f -> ∃ k', k' <= k /\ (ZH 600).L f (P.map zj, O.length, (i : Int), (k : Int), fl zj O) = some (P.map zj, O.length, (i : Int), (k' : Int), fl zj O) /\ (∀ h : k' - 1 < O.length, 0 < k' -> ¬ cE O[k' - 1] P[i] > 0) /\ (∀ j (h : j < O.length), k' <= j -> j < k -> cE O[j] P[i] > 0) := by
 intro k
 induction k with
 | zero =>
  intro f hk hf
  obtain ⟨f, rfl⟩ := pS hf
  refine ⟨0, Nat.le_refl _, ?_, λ _ h => by omega, λ j _ h1 h2 => by omega⟩
  show (ZH 600).b _ _ ((ZH 600).L f) some = _
  have e1 : decide (((0 : Nat) : Int) > 0) = false := by decide
  simp only [ZH]
  simp only [e1, fl1]
 | succ k ih =>
  intro f hk hf
  obtain ⟨f, rfl⟩ := pS hf
  have e1 : decide (((k + 1 : Nat) : Int) > 0) = true := dT (by omega)
  have e2 : i64 (((k + 1 : Nat) : Int) - 1) = (k : Int) := by rw [zG (by omega)]; omega
  have e3 : 0 <= (k : Int) /\ (k : Int) < (O.length : Int) := by omega
  have h0 : 0 <= (i : Int) := by omega
  have hd : (fl zj O).drop ((0 + k) * 9) = zj O[k] ++ fl zj (O.drop (k + 1)) := by
   have := zcu zj 9 Zp O k 0 (by omega) (by omega)
   rw [Nat.zero_add]
   exact this
  have hr : jI ((fl zj O).drop ((0 + k) * 9)) = some O[k] := by rw [hd]; exact zbw _ _
  by_cases h : cE O[k] P[i] > 0
  ·obtain ⟨k', c1, c2, c3, c4⟩ := ih f (by omega) (by omega)
   refine ⟨k', by omega, ?_, c3, λ j hj h1 h2 => ?_⟩
   ·show (ZH 600).b _ _ ((ZH 600).L f) some = _
    generalize (ZH 600).L f = Lf at c2 |-
    simp only [ZH]
    simp only [e1, e2, e3, h0, and_self, if_true, Int.toNat_natCast, hr, zaC P i hi, zT, zs2, h, decide_true, fl1]
    exact c2
   ·by_cases hj2 : j = k
    ·subst hj2; exact h
    ·exact c4 j hj h1 (by omega)
  ·refine ⟨k + 1, Nat.le_refl _, ?_, λ _ _ => h, λ j _ h1 h2 => by omega⟩
   show (ZH 600).b _ _ ((ZH 600).L f) some = _
   simp only [ZH]
   simp only [e1, e2, e3, h0, and_self, if_true, Int.toNat_natCast, hr, zaC P i hi, zT, zs2, h, decide_false, fl1]
theorem J9 : ∀ (A B : List RT1), J8 (A ++ B) = true ↔ J8 A = true /\ J8 B = true /\ ∀ a b, A.getLast? = some a -> B.head? = some b -> cE a b = -1
 | [], B => ⟨λ h => ⟨rfl, h, λ a b h => by cases h⟩, λ h => h.2.1⟩
 | [a], [] => ⟨λ _ => ⟨rfl, rfl, λ a b _ h => by cases h⟩, λ _ => rfl⟩
 | [a], b :: r => by
  show ((cE a b == -1) && J8 (b :: r)) = true ↔ _
  rw [Bool.and_eq_true, beq_iff_eq]
  constructor
  ·rintro ⟨h1, h2⟩
   refine ⟨rfl, h2, λ a' b' ha hb => ?_⟩
   cases ha; cases hb; exact h1
  ·rintro ⟨-, h2, h3⟩
   exact ⟨h3 a b rfl rfl, h2⟩
 | a :: c :: A, B => by
  have ih := J9 (c :: A) B
  show ((cE a c == -1) && J8 (c :: A ++ B)) = true ↔ ((cE a c == -1) && J8 (c :: A)) = true /\ _
  rw [Bool.and_eq_true, Bool.and_eq_true, ih]
  have e : (a :: c :: A).getLast? = (c :: A).getLast? := by simp [List.getLast?_cons]
  rw [e]
  constructor
  ·rintro ⟨h1, h2, h3, h4⟩; exact ⟨⟨h1, h2⟩, h3, h4⟩
  ·rintro ⟨⟨h1, h2⟩, h3, h4⟩; exact ⟨h1, h2, h3, h4⟩
theorem zmy {α : Type} (O : List α) (k : Nat) (hk : k <= O.length) (h0 : 0 < k) : (O.take k).getLast? = O[k - 1]? := by
 rw [List.getLast?_eq_getElem?, List.length_take, Nat.min_eq_left hk, List.getElem?_take, if_pos (by omega)]
theorem zoK {x : RT1} {O : List RT1} {k : Nat} (hk : k <= O.length) (hO : J8 O = true) (h1 : ∀ h : k - 1 < O.length, 0 < k -> ¬ cE O[k - 1] x > 0) (h2 : ∀ h : k < O.length, cE O[k] x > 0) : J8 (zmw x O k) = true := by
 unfold zmw
 split
 ·exact hO
 ·rename_i hne
  rw [<- List.take_append_drop k O, J9] at hO
  obtain ⟨o1, o2, o3⟩ := hO
  rw [J9]
  refine ⟨o1, ?_, λ a b ha hb => ?_⟩
  ·rw [show x :: O.drop k = [x] ++ O.drop k from rfl, J9]
   refine ⟨rfl, o2, λ a b ha hb => ?_⟩
   obtain rfl : x = a := Option.some.inj ha
   rw [List.head?_drop] at hb
   obtain ⟨hl, rfl⟩ := List.getElem?_eq_some_iff.1 hb
   have := h2 hl
   have h3 := Cm.pick.anti O[k] x
   rcases Cm.pick.vals O[k] x with v | v | v <;> omega
  ·obtain rfl : x = b := Option.some.inj hb
   by_cases h0 : 0 < k
   ·rw [zmy O k hk h0] at ha
    obtain ⟨hl, rfl⟩ := List.getElem?_eq_some_iff.1 ha
    have h3 := h1 hl h0
    rcases Cm.pick.vals O[k - 1] x with v | v | v
    ·exact v
    ·exact absurd ⟨h0, by rw [ha, (Cm.pick.zero _ _).1 v]⟩ hne
    ·omega
   ·obtain rfl : k = 0 := by omega
    cases ha
theorem zoJ (x : RT1) (O : List RT1) (k : Nat) (hk : k <= O.length) : (zmw x O k).length <= O.length + 1 := by
 unfold zmw
 split
 ·omega
 ·simp; omega
theorem zoI {x : RT1} {O : List RT1} {k : Nat} (hk : k <= O.length) (hs : J8 (O ++ [x]) = true) (h2 : ∀ j (h : j < O.length), k <= j -> cE O[j] x > 0) : zmw x O k = O ++ [x] := by
 have hO := (J9 O [x]).1 hs
 have key : ∀ j (h : j < O.length), cE O[j] x = -1 := λ j h => by
  have h3 : J8 (O.drop j ++ [x]) = true := by
   rw [<- List.take_append_drop j O, List.append_assoc, J9] at hs
   exact hs.2.1
  rw [List.drop_eq_getElem_cons h] at h3
  exact (zna h3).1 x (by simp)
 have hkl : k = O.length := by
  by_cases h : k < O.length
  ·have := h2 k h (Nat.le_refl _)
   rw [key k h] at this
   omega
  ·omega
 subst hkl
 unfold zmw
 rw [if_neg, List.take_length, List.drop_length]
 rintro ⟨h0, h⟩
 obtain ⟨hl, he⟩ := List.getElem?_eq_some_iff.1 h
 have := key _ hl
 rw [he, (Cm.pick.zero x x).2 rfl] at this
 omega
end
section
theorem zm6 (P O : List RT1) (i : Nat) (hi : i < P.length) (hP : P.length <= 500) (hO : O.length <= 500) (f : Nat) : ∃ k, k <= O.length /\ (∀ h : k - 1 < O.length, 0 < k -> ¬ cE O[k - 1] P[i] > 0) /\ (∀ j (h : j < O.length), k <= j -> cE O[j] P[i] > 0) /\ (jz 600).L (f + 1) (O.length, P.map zj, (i : Int), fl zj O) = (jz 600).L f ((zmw P[i] O k).length, P.map zj, ((i + 1 : Nat) : Int), fl zj (zmw P[i] O k)) := by
 obtain ⟨k, k1, k2, k3, k4⟩ := zjv P O i hi hP hO O.length 600 (Nat.le_refl _) (by omega)
 refine ⟨k, k1, k3, λ j h h1 => k4 j h h1 h, ?_⟩
 show (jz 600).b _ _ ((jz 600).L f) some = _
 obtain ⟨Lf, hLf⟩ : ∃ Lf, Lf = (jz 600).L f := ⟨_, rfl⟩
 rw [<- hLf]
 have e1 : decide ((i : Int) < (P.length : Int)) = true := dT (by omega)
 have h0 : 0 <= (i : Int) := by omega
 have hk0 : 0 <= (k : Int) := by omega
 have t1 : (fl zj O).take (O.length * 9) ++ [zj P[i]].flatten = fl zj (O ++ [P[i]]) := by
  rw [zes zj 9 Zp O O.length rfl, <- zmm]; simp
 have lX : (fl zj (O ++ [P[i]])).length = (O.length + 1) * 9 := by rw [zjq]; simp
 have b1 : O.length * 9 <= (fl zj O).length /\ (O.length + [zj P[i]].length) * 104 <= ze := by
  rw [zjq]; unfold ze; simp; omega
 have b2 : 0 <= i64 ((k : Int) + 1) /\ i64 ((k : Int) + 1) <= (((O.length + [zj P[i]].length) : Nat) : Int) := by
  rw [zi (show k < 1000000 by omega)]; simp; omega
 have b3 : 0 <= (k : Int) /\ (k : Int) <= (((O.length + [zj P[i]].length) : Nat) : Int) := by simp; omega
 have b4 : ((0 + k) + ((O.length + [zj P[i]].length) - k)) * 9 <= (fl zj (O ++ [P[i]])).length := by rw [lX]; simp; omega
 have b5 : ((0 + (k + 1)) + ((O.length + [zj P[i]].length) - (k + 1))) * 9 <= (fl zj (O ++ [P[i]])).length := by rw [lX]; simp; omega
 have b6 : 0 <= (k : Int) /\ (k : Int) < (((O.length + [zj P[i]].length) : Nat) : Int) := by simp; omega
 have em : Nat.min ((O.length + [zj P[i]].length) - k) ((O.length + [zj P[i]].length) - (k + 1)) = O.length - k := by
  show min _ _ = _
  simp; omega
 have hb := zth O P[i] k k1
 have ek : (0 + k) * 9 = k * 9 := by rw [Nat.zero_add]
 have ek1 : (0 + (k + 1)) * 9 = (k + 1) * 9 := by rw [Nat.zero_add]
 have b7 : (0 + k) * 9 + 9 <= (splice (fl zj (O ++ [P[i]])) ((k + 1) * 9) (((fl zj (O ++ [P[i]])).drop (k * 9)).take ((O.length - k) * 9))).length := by
  rw [zA, lX]; omega
 have hs : ¬ (0 < k /\ O[k - 1]? = some P[i]) -> (zmw P[i] O k) = O.take k ++ P[i] :: O.drop k := λ h => if_neg h
 have hln : ¬ (0 < k /\ O[k - 1]? = some P[i]) -> (zmw P[i] O k).length = O.length + [zj P[i]].length := λ h => by
  rw [hs h]; simp; omega
 have hn1 : i64 ((k : Int) + 1) = ((k + 1 : Nat) : Int) := zi (show k < 1000000 by omega)
 have hn2 : i64 ((i : Int) + 1) = ((i + 1 : Nat) : Int) := zi (show i < 1000000 by omega)
 have b2' := b2
 rw [hn1] at b2'
 simp only [jz]
 simp only [List.length_map, e1, fl1, zlw, k2]
 by_cases c0 : (k : Int) > 0
 ·have c1 : i64 ((k : Int) - 1) = ((k - 1 : Nat) : Int) := by rw [zG (by omega)]; omega
  have c2 : 0 <= ((k - 1 : Nat) : Int) /\ ((k - 1 : Nat) : Int) < (O.length : Int) := by omega
  have hkl : k - 1 < O.length := by omega
  have hr : jI ((fl zj O).drop ((0 + (k - 1)) * 9)) = some O[k - 1] := by
   have := zcu zj 9 Zp O (k - 1) 0 hkl (by omega)
   rw [Nat.zero_add, show (k - 1) * 9 = (k - 1) * 9 + 0 from rfl, this]
   exact zbw _ _
  simp only [c0, decide_true, c1, c2, h0, and_self, if_true, Int.toNat_natCast, hr, zaC P i hi, zT]
  by_cases he : O[k - 1] = P[i]
  ·have e5 : eqP O[k - 1] P[i] = true := by rw [he]; exact JU _
   have e6 : zmw P[i] O k = O := if_pos ⟨by omega, by rw [List.getElem?_eq_getElem hkl, he]⟩
   simp only [e5, hn2, fl1]
   rw [e6]
  ·have e5 : eqP O[k - 1] P[i] = false := zan he
   have hc : ¬ (0 < k /\ O[k - 1]? = some P[i]) := λ h => he (by
    have := h.2
    rw [List.getElem?_eq_getElem hkl] at this
    exact Option.some.inj this)
   simp only [e5, h0, if_true, Int.toNat_natCast, zaC P i hi, zT, b1, and_self, b2, b3, hn1, t1]
   simp only [em, ek, ek1] at b4 b5 b7 |-
   simp only [b4, b5, b6, if_true, and_self, b7, hb, fl1, hn2]
   rw [hln hc, hs hc]
   exact (if_pos b2').trans (if_pos trivial)
 ·have c3 : decide ((k : Int) > 0) = false := by rw [decide_eq_false_iff_not]; exact c0
  have hc : ¬ (0 < k /\ O[k - 1]? = some P[i]) := λ h => c0 (by omega)
  simp only [c3, h0, if_true, Int.toNat_natCast, zaC P i hi, zT, b1, and_self, b2, b3, hn1, t1]
  simp only [em, ek, ek1] at b4 b5 b7 |-
  simp only [b4, b5, b6, if_true, and_self, b7, hb, fl1, hn2]
  rw [hln hc, hs hc]
  exact (if_pos b2').trans (if_pos trivial)
theorem zm5 (P : List RT1) (hP : P.length <= 250) : ∀ (d i f : Nat) (O : List RT1), i + d = P.length -> d < f -> O.length <= i -> J8 O = true -> (J8 (P.take i) = true -> O = P.take i) -> ∃ O' : List RT1, (jz 600).L f (O.length, P.map zj, (i : Int), fl zj O) = some (O'.length, fl zj O') /\ O'.length <= P.length /\ J8 O' = true /\ (J8 P = true -> O' = P) := by
 intro d
 induction d with
 | zero =>
  intro i f O hk hf hl hs ht
  obtain ⟨f, rfl⟩ := pS hf
  rw [List.take_of_length_le (by omega)] at ht
  refine ⟨O, ?_, by omega, hs, ht⟩
  show (jz 600).b _ _ ((jz 600).L f) some = _
  have e2 : decide ((i : Int) < (P.length : Int)) = false := dF (by omega)
  simp only [jz]
  simp only [List.length_map, e2, fl1]
 | succ d ih =>
  intro i f O hk hf hl hs ht
  obtain ⟨f, rfl⟩ := pS hf
  have hi : i < P.length := by omega
  obtain ⟨k, k1, k2, k3, k4⟩ := zm6 P O i hi (by omega) (by omega) f
  rw [k4]
  refine ih (i + 1) f _ (by omega) (by omega) (by have := zoJ P[i] O k k1; omega) (zoK k1 hs k2 λ h => k3 k h (Nat.le_refl _)) λ h => ?_
  rw [List.take_succ_eq_append_getElem hi] at h |-
  have e := ht ((J9 _ _).1 h).1
  rw [<- e] at h |-
  exact zoI k1 h k3
theorem zyk (P : List RT1) (hP : P.length <= 250) : ∃ O : List RT1, znT 600 (P.map zj) = some (O.map zj) /\ O.length <= P.length /\ (J8 P = true ↔ P = O) := by
 obtain ⟨O, h1, h2, h3, h4⟩ := zm5 P hP P.length 0 600 [] (by omega) (by omega) (Nat.le_refl _) rfl (λ _ => by simp)
 replace h1 : (jz 600).L 600 (0, P.map zj, 0, []) = some (O.length, fl zj O) := h1
 refine ⟨O, ?_, h2, λ h => (h4 h).symm, λ h => by rw [h]; exact h3⟩
 have b1 : O.length * 9 <= (fl zj O).length := by rw [zjq]; omega
 simp only [znT, FSpec.d, zsi, zqo, h1, b1, if_true, zao zj 9 Zp (λ _ => rfl) O O.length rfl]
def PkE (e : RT0) (P : List RT1) : Prop := P.length <= 20 /\ pkE e = P.map zj
def evB (e : RT0) (P : List RT1) : Bool := !(P.isEmpty) && (J8 P && eqP (nmE e) (nmF P))
theorem zn9 {e : RT0} {P : List RT1} (h : PkE e P) : Jk 600 [zu e] = some (evB e P) := by
 obtain ⟨hl, hp⟩ := h
 have hx : ((zu e).drop 9).drop 0 = AV.list 9 (pkE e) none :: (zu e).drop 10 := rfl
 have hn : jI ((zu e).drop 0) = some (nmE e) := nm0 e
 have key : ∃ y, (zW 600).L 600 ([zu e], 0) = some y /\ ((evB e P = true /\ y = .inr ()) \/ (evB e P = false /\ y = .inl false)) := by
  have e1 : decide ((0 : Int) < (([zu e] : List (List AV)).length : Int)) = true := rfl
  have h0 : (0 : Int) <= 0 := by omega
  have g0 : ([zu e] : List (List AV))[(0 : Int).toNat]? = some (zu e) := rfl
  have hls : ZW 9 (AV.list 9 (P.map zj) none) = some (P.map zj) := rfl
  by_cases hP : P = []
  ·subst hP
   refine ⟨.inl false, ?_, .inr ⟨rfl, rfl⟩⟩
   show (zW 600).b _ _ ((zW 600).L 599) some = _
   have e2 : (((([] : List RT1).map zj).length : Int) == 0) = true := rfl
   simp only [zW]
   simp only [e1, h0, if_true, g0, hx, hp, List.getElem?_cons_zero, hls, e2]
  ·have hlp := List.length_pos_iff.2 hP
   have e2 : (((P.map zj).length : Int) == 0) = false := by simp; omega
   have n1 := zxP P hP (by omega)
   obtain ⟨O, o1, o2, o3⟩ := zyk P (by omega)
   obtain ⟨b, s1, s2⟩ := zya P O (by omega) (by omega)
   have hE : evB e P = (J8 P && eqP (nmE e) (nmF P)) := by
    unfold evB
    cases P with
    | nil => exact absurd rfl hP
    | cons a r => rfl
   rw [hE]
   cases hq : eqP (nmE e) (nmF P) with
   | false =>
    refine ⟨.inl false, ?_, .inr ⟨by rw [Bool.and_false], rfl⟩⟩
    show (zW 600).b _ _ ((zW 600).L 599) some = _
    simp only [zW]
    simp only [e1, h0, if_true, g0, hx, hp, List.getElem?_cons_zero, hls, e2, hn, n1, hq, Bool.not_false]
   | true =>
    rw [Bool.and_true]
    cases b with
    | false =>
     have hs : J8 P = false := by
      cases hs : J8 P with
      | false => rfl
      | true => have := s2.2 (o3.1 hs); cases this
     refine ⟨.inl false, ?_, .inr ⟨hs, rfl⟩⟩
     show (zW 600).b _ _ ((zW 600).L 599) some = _
     simp only [zW]
     simp only [e1, h0, if_true, g0, hx, hp, List.getElem?_cons_zero, hls, e2, hn, n1, hq, Bool.not_true, o1, s1, Bool.not_false]
    | true =>
     refine ⟨.inr (), ?_, .inl ⟨o3.2 (s2.1 rfl), rfl⟩⟩
     show (zW 600).b _ _ ((zW 600).L 599) some = _
     have e3 : decide ((0 : Int) > 0) = false := by decide
     have e4 : zbR 600 ([zu e], P.map zj, 0, 0) = some (.inr ([zu e], 0)) := by
      show (Zw 600).b _ _ ((Zw 600).L 599) some = _
      simp only [Zw]
      rfl
     have e5 : (zW 600).L 599 ([zu e], i64 (0 + 1)) = some (.inr ()) := by
      show (zW 600).b _ _ ((zW 600).L 598) some = _
      simp only [zW]
      rfl
     generalize (zW 600).L 599 = Lf at e5 |-
     simp only [zW]
     simp only [e1, h0, if_true, g0, hx, hp, List.getElem?_cons_zero, hls, e2, hn, n1, hq, Bool.not_true, o1, s1, e3, e4]
     exact e5
 obtain ⟨y, h1, h2⟩ := key
 simp only [Jk, FSpec.d, znC, zkP, h1]
 rcases h2 with ⟨h2, rfl⟩ | ⟨h2, rfl⟩ <;> rw [h2]
theorem zhH {e : RT0} {P : List RT1} (h : PkE e P) : zd0 600 [zu e] = some (evB e P) := by
 obtain ⟨hl, hp⟩ := h
 have hp' : e.2.2.2.2.2.2.2.2.2.1 = P.map zj := hp
 have key : ∃ y, (zS 600).L 600 ([zu e], [zu e], 1, 0, []) = some y /\ ((evB e P = true /\ y = .inr ()) \/ (evB e P = false /\ y = .inl false)) := by
  have e1 : decide ((0 : Int) < 1) = true := rfl
  have h0 : (0 : Int) <= 0 := by omega
  have g0 : ([zu e] : List (List AV))[(0 : Int).toNat]? = some (zu e) := rfl
  by_cases hP : P = []
  ·subst hP
   refine ⟨.inl false, ?_, .inr ⟨rfl, rfl⟩⟩
   show (zS 600).b _ _ ((zS 600).L 599) some = _
   have e2 : (((([] : List RT1).map zj).length : Int) == 0) = true := rfl
   simp only [zS]
   simp only [e1, h0, if_true, g0, jn, hp', e2]
  ·have hlp := List.length_pos_iff.2 hP
   have e2 : (((P.map zj).length : Int) == 0) = false := by simp; omega
   have n1 := zxO P (by omega)
   have s1 := zpq P hP (by omega)
   have hE : evB e P = (J8 P && eqP (nmE e) (nmF P)) := by
    unfold evB
    cases P with
    | nil => exact absurd rfl hP
    | cons a r => rfl
   rw [hE]
   cases hs : J8 P with
   | false =>
    refine ⟨.inl false, ?_, .inr ⟨by rw [Bool.false_and], rfl⟩⟩
    show (zS 600).b _ _ ((zS 600).L 599) some = _
    simp only [zS]
    simp only [e1, h0, if_true, g0, jn, hp', e2, s1, hs, Bool.not_false]
   | true =>
    rw [Bool.true_and]
    cases hq : eqP (nmE e) (nmF P) with
    | false =>
     refine ⟨.inl false, ?_, .inr ⟨rfl, rfl⟩⟩
     show (zS 600).b _ _ ((zS 600).L 599) some = _
     simp only [zS]
     simp only [e1, h0, if_true, g0, jn, hp', e2, s1, hs, Bool.not_true, n1, hq, Bool.not_false]
    | true =>
     refine ⟨.inr (), ?_, .inl ⟨rfl, rfl⟩⟩
     have sl := zfL [zu e] [zu e] 1 0 P (by omega) (zfP hs) P.length 0 600 [] (by omega) (by omega) (λ p hp hm => by cases hm)
     replace sl : (ZL 600).L 600 ([zu e], [zu e], P.map zj, 1, 0, (P.length : Int), 0, []) = some (.inr ([zu e], [zu e], 1, 0, ([] ++ P.drop 0).map zj)) := sl
     show (zS 600).b _ _ ((zS 600).L 599) some = _
     have e3 : decide ((0 : Int) > 0) = false := by decide
     have e5 : ∀ M, (zS 600).L 599 ([zu e], [zu e], 1, i64 (0 + 1), M) = some (.inr ()) := λ M => by
      show (zS 600).b _ _ ((zS 600).L 598) some = _
      simp only [zS]
      rfl
     generalize (zS 600).L 599 = Lf at e5 |-
     simp only [zS]
     simp only [e1, h0, if_true, g0, jn, hp', List.length_map] at e2 |-
     simp only [e2, s1, hs, Bool.not_true, n1, hq, e3, sl]
     exact e5 _
 obtain ⟨y, h1, h2⟩ := key
 simp only [zd0, FSpec.d, znK, zlb]
 replace h1 : (zS 600).L 600 ([zu e], [zu e], (([zu e] : List (List AV)).length : Int), 0, []) = some y := h1
 simp only [h1]
 rcases h2 with ⟨h2, rfl⟩ | ⟨h2, rfl⟩ <;> rw [h2]
theorem zl3 {e : RT0} {P : List RT1} (h : PkE e P) : zcY 600 e = some (evB e P) := by
 have := zhH h
 simp only [zcY, FSpec.d, zst]
 simp only [this]
end
section
open Go.RowKit
def smE (e : RT0) : Bool := decide ((e.2.2.2.2.2.2.2.2.2.1.length : Int) <= 20) && (decide (e.2.2.2.2.2.2.2.2.2.2.2.2.2.1 > -1152921504606846976) && decide (e.2.2.2.2.2.2.2.2.2.2.2.2.2.1 < 1152921504606846976))
theorem zBl (N : Nat) (e : RT0) : zyz N e = some (smE e) := by
 simp only [zyz, FSpec.d, zyW]
 unfold smE
 cases decide ((e.2.2.2.2.2.2.2.2.2.1.length : Int) <= 20) with
 | false => rfl
 | true => cases decide (e.2.2.2.2.2.2.2.2.2.2.2.2.2.1 > -1152921504606846976) <;> rfl
def smX (x : List RT7) : Bool := !(decide ((x.length : Int) > 20)) && x.all λ v => smE (evV v)
def smC (C : List (List RT7)) : Bool := C.all smX && decide ((C.length : Int) <= 10)
theorem zpo (N : Nat) (x : List RT7) (hx : x.length <= 9223372036854775807) (n i : Int) (X : List (List AV)) : ∀ (d k f : Nat), k + d = x.length -> d < f -> (Jh N).L f (x.map zp, n, i, (x.length : Int), (k : Int), X) = some (if (x.drop k).all (λ v => smE (evV v)) = true then .inr (n, i, X) else .inl (false, n, i, X)) := by
 intro d
 induction d with
 | zero =>
  intro k f hk hf
  obtain ⟨f, rfl⟩ : ∃ f', f = f' + 1 := ⟨f - 1, by omega⟩
  rw [List.drop_eq_nil_of_le (by omega)]
  show (Jh N).b _ _ ((Jh N).L f) some = _
  have c : decide ((k : Int) < (x.length : Int)) = false := by rw [decide_eq_false_iff_not]; omega
  simp only [Jh, c]
  rfl
 | succ d ih =>
  intro k f hk hf
  obtain ⟨f, rfl⟩ : ∃ f', f = f' + 1 := ⟨f - 1, by omega⟩
  have hkl : k < x.length := by omega
  have r := ih (k + 1) f (by omega) (by omega)
  rw [List.drop_eq_getElem_cons hkl, List.all_cons]
  show (Jh N).b _ _ ((Jh N).L f) some = _
  obtain ⟨Lf, hL⟩ : ∃ Lf, Lf = (Jh N).L f := ⟨_, rfl⟩
  rw [<- hL] at r |-
  have c1 : decide ((k : Int) < (x.length : Int)) = true := by rw [decide_eq_true_iff]; omega
  have c2 : (0 : Int) <= (k : Int) := by omega
  have e1 : i64 ((k : Int) + 1) = ((k + 1 : Nat) : Int) := by rw [zhL (by omega)]; omega
  have g : zBv (zp x[k]) = some x[k] := rd7 x[k]
  have s1 : zyz N (zhD x[k]) = some (smE (evV x[k])) := zBl N _
  simp only [Jh, c1, c2, if_true, Int.toNat_natCast, zcA x k hkl, g, s1, e1]
  cases smE (evV x[k]) with
  | false => rfl
  | true => exact r
theorem zpn (N : Nat) (C : List (List RT7)) (hC : C.length <= 9223372036854775807) (hx : ∀ x ∈ C, x.length <= 9223372036854775807) (hN : 21 < N) : ∀ (d k f : Nat), k + d = C.length -> d < f -> (zaf N).L f ((C.length : Int), (k : Int), zh C) = some (if (C.drop k).all smX = true then .inr (zh C) else .inl (false, zh C)) := by
 intro d
 induction d with
 | zero =>
  intro k f hk hf
  obtain ⟨f, rfl⟩ : ∃ f', f = f' + 1 := ⟨f - 1, by omega⟩
  rw [List.drop_eq_nil_of_le (by omega)]
  show (zaf N).b _ _ ((zaf N).L f) some = _
  have c : decide ((k : Int) < (C.length : Int)) = false := by rw [decide_eq_false_iff_not]; omega
  simp only [zaf, c]
  rfl
 | succ d ih =>
  intro k f hk hf
  obtain ⟨f, rfl⟩ : ∃ f', f = f' + 1 := ⟨f - 1, by omega⟩
  have hkl : k < C.length := by omega
  have r := ih (k + 1) f (by omega) (by omega)
  rw [List.drop_eq_getElem_cons hkl, List.all_cons]
  show (zaf N).b _ _ ((zaf N).L f) some = _
  obtain ⟨Lf, hL⟩ : ∃ Lf, Lf = (zaf N).L f := ⟨_, rfl⟩
  rw [<- hL] at r |-
  have c1 : decide ((k : Int) < (C.length : Int)) = true := by rw [decide_eq_true_iff]; omega
  have c2 : (0 : Int) <= (k : Int) := by omega
  have e1 : i64 ((k : Int) + 1) = ((k + 1 : Nat) : Int) := by rw [zhL (by omega)]; omega
  have hs : smX C[k] = (!(decide ((C[k].length : Int) > 20)) && C[k].all λ v => smE (evV v)) := rfl
  rw [hs]
  simp only [zaf, c1, c2, if_true, Int.toNat_natCast, zI C k hkl, zfI, zjr, List.length_map]
  cases hq : decide ((C[k].length : Int) > 20) with
  | true => rfl
  | false =>
   have hl : C[k].length <= 20 := by rw [decide_eq_false_iff_not] at hq; omega
   have r2 := zpo N C[k] (hx _ (List.getElem_mem _)) (C.length : Int) (k : Int) (zh C) C[k].length 0 N (by omega) (by omega)
   rw [List.drop_zero] at r2
   cases ha : C[k].all λ v => smE (evV v) with
   | false =>
    rw [ha] at r2
    replace r2 : zjL N (C[k].map zp, (C.length : Int), (k : Int), (C[k].length : Int), 0, zh C) = some (.inl (false, (C.length : Int), (k : Int), zh C)) := r2
    simp only [r2]
    rfl
   | true =>
    rw [ha] at r2
    replace r2 : zjL N (C[k].map zp, (C.length : Int), (k : Int), (C[k].length : Int), 0, zh C) = some (.inr ((C.length : Int), (k : Int), zh C)) := r2
    simp only [r2, e1]
    exact r
theorem zpm (C : List (List RT7)) (hC : C.length <= 9223372036854775807) (hx : ∀ x ∈ C, x.length <= 9223372036854775807) : zyT (C.length + 30) (zh C) = some (smC C) := by
 have r := zpn (C.length + 30) C hC hx (by omega) C.length 0 (C.length + 30) (by omega) (by omega)
 rw [List.drop_zero] at r
 replace r : (zaf (C.length + 30)).L (C.length + 30) ((C.length : Int), 0, zh C) = _ := r
 unfold smC
 cases ha : C.all smX with
 | false =>
  rw [ha] at r
  replace r : (zaf (C.length + 30)).L (C.length + 30) ((C.length : Int), 0, zh C) = some (.inl (false, zh C)) := r
  simp only [zyT, FSpec.d, zut, zq8, zq, r, Bool.false_and]
 | true =>
  rw [ha] at r
  replace r : (zaf (C.length + 30)).L (C.length + 30) ((C.length : Int), 0, zh C) = some (.inr (zh C)) := r
  simp only [zyT, FSpec.d, zut, zq8, zq, r, Bool.true_and]
theorem zpc {a b : RT7} (h : zp a = zp b) : a = b := by
 have := congrArg zgs h
 rw [rd7, rd7] at this
 exact Option.some.inj this
theorem zom {C D : List (List RT7)} (h : zh C = zh D) : C = D := by
 induction C generalizing D with
 | nil => cases D with | nil => rfl | cons y D => cases h
 | cons x C ih =>
  cases D with
  | nil => cases h
  | cons y D =>
   have h' : zph x :: zh C = zph y :: zh D := h
   injection h' with h1 h2
   have h3 := congrArg ze2 h1
   rw [zg1, zg1] at h3
   have h4 : x.map zp = y.map zp := congrArg Prod.fst (Option.some.inj h3)
   have h5 : x = y := List.map_inj_right (λ _ _ e => zpc e) |>.1 h4
   rw [h5, ih h2]
def Sz (C : List (List RT7)) : Prop := C.length <= 9223372036854775807 /\ ∀ x ∈ C, x.length <= 9223372036854775807
open Classical in
noncomputable def zBt (N : Nat) : FSpec := { zut N with t := λ (x : List (List AV)) α k => if h : ∃ C, x = zh C /\ Sz C then k (smC h.choose) else none, par := by intro x α β k k' r r' h h1; revert h; dsimp only; (repeat' split) <;> intro h <;> first | exact h1 _ h | cases h }
noncomputable abbrev zBs (N : Nat) (x : List (List AV)) : Option Bool := (zBt N).d x
noncomputable def F6_e (N : Nat) : Ent Tryz.prog where
 f := 6
 F := zBt N
 ok := λ (x : List (List AV)) y h => by
  classical
  have h : (if h : ∃ C, x = zh C /\ Sz C then some (smC h.choose) else none) = some y := h
  split at h
  ·rename_i hx
   cases h
   obtain ⟨e1, e2, e3⟩ := hx.choose_spec
   have := (zBp (hx.choose.length + 30)).ok (zh hx.choose) _ (zpm _ e2 e3)
   rw [<- e1] at this
   exact this
  ·cases h
 hp := (zBp 0).hp
 hsl := λ y => rfl
theorem zpp {C : List (List RT7)} (h : Sz C) : zBs 600 (zh C) = some (smC C) := by
 classical
 have hx : ∃ D, zh C = zh D /\ Sz D := ⟨C, rfl, h⟩
 show (if h : ∃ D, zh C = zh D /\ Sz D then some (smC h.choose) else none) = _
 rw [dif_pos hx, <- zom hx.choose_spec.1]
end
section
open Go.RowKit
def RwF (M : Mem) (R : List (List Value)) (xs : List (List AV)) : Prop := R.length = xs.length /\ ∀ i (h : i < R.length) (h' : i < xs.length), (R[i]).length = (xs[i]).length /\ ∀ j (q : j < (R[i]).length) (q' : j < (xs[i]).length), (R[i][j]).oneCell' = true /\ Rd M Jy jS (R[i][j]) (xs[i][j])
def rwA (R : List (List Value)) : List (List AV) := R.map λ r => r.map AV.v
theorem JD (R : List (List Value)) : (rwA R).length = R.length := by simp [rwA]
theorem zpa {M : Mem} {ρ : Rho} {σ : Sig} {c : Value} {n : Nat} {xs : List (List AV)} {t : Option Nat} (h : Rd M ρ σ c (.list n xs t)) : ∃ R : List (List Value), RwF M R xs /\ Rd M ρ σ c (.list n (rwA R) t) := by
 cases h with
 | nil => exact ⟨[], ⟨rfl, λ i h => by cases h⟩, .nil⟩
 | @list _ _ g off len cap _ _ _ cf q1 q2 q3 q4 q5 q6 q7 =>
  obtain ⟨R, hR⟩ : ∃ R : List (List Value), R = (List.range xs.length).map λ i => (List.range n).map λ j => cf i j := ⟨_, rfl⟩
  have hl : R.length = xs.length := by simp [hR]
  have hi : ∀ i (h : i < R.length), R[i] = (List.range n).map λ j => cf i j := λ i h => by simp [hR]
  refine ⟨R, ⟨hl, λ i h h' => ?_⟩, .list cf (by rw [JD, hl, q1]) q2 (λ i h => ?_) (λ i j h1 h2 => q4 i j (by rw [JD, hl] at h1; exact h1) h2) q5 (λ i j h1 h2 => ?_) q7⟩
  ·have e := hi i h
   refine ⟨by rw [e, q3 i h']; simp, λ j q q' => ?_⟩
   have ej : R[i][j] = cf i j := by simp [e]
   rw [ej]
   exact ⟨q5 i j, q6 i j h' q'⟩
  ·have h' : i < R.length := by rw [JD] at h; exact h
   simp [rwA, hi i h']
  ·have h' : i < R.length := by rw [JD] at h1; exact h1
   have e : (rwA R)[i][j] = AV.v (cf i j) := by simp [rwA, hi i h']
   rw [e]
   exact .v
def zM (XX : List (List (List AV))) : List (List AV) := XX.map λ xs => [AV.list 29 xs none]
theorem Z0 (XX : List (List (List AV))) : (zM XX).length = XX.length := by simp [zM]
theorem zm3 (XX : List (List (List AV))) (k : Nat) (h : k < XX.length) : (zM XX)[k]? = some [AV.list 29 XX[k] none] := by simp [zM, h]
theorem zmc (C : List (List RT7)) : zh C = zM (C.map λ x => x.map zp) := by simp [zh, zM, zph]
theorem ztU {M : Mem} {ρ : Rho} {σ : Sig} {c : Value} {XX : List (List (List AV))} {t : Option Nat} (h : Rd M ρ σ c (.list 1 (zM XX) t)) : ∃ RR : List (List (List Value)), RR.length = XX.length /\ (∀ k (h : k < RR.length) (h' : k < XX.length), RwF M RR[k] XX[k]) /\ Rd M ρ σ c (.list 1 (zM (RR.map rwA)) t) := by
 generalize hr : zM XX = rows at h
 cases h with
 | nil =>
  have : XX = [] := by cases XX with | nil => rfl | cons a l => cases hr
  subst this
  exact ⟨[], rfl, λ k h => (by cases h), .nil⟩
 | @list _ _ g off len cap _ _ _ cf q1 q2 q3 q4 q5 q6 q7 =>
  subst hr
  rw [Z0] at q1
  have key : ∀ k, ∃ R : List (List Value), ∀ h : k < XX.length, RwF M R XX[k] /\ Rd M Jy jS (cf k 0) (.list 29 (rwA R) none) := λ k => by
   by_cases hk : k < XX.length
   ·have h1 := q6 k 0 (by rw [Z0]; exact hk) (by simp [zM])
    have e : ((zM XX)[k]'(by rw [Z0]; exact hk))[0]'(by simp [zM]) = AV.list 29 XX[k] none := by simp [zM]
    rw [e] at h1
    obtain ⟨R, r1, r2⟩ := zpa h1
    exact ⟨R, λ _ => ⟨r1, r2⟩⟩
   ·exact ⟨[], λ h => absurd h hk⟩
  obtain ⟨f, hf⟩ := Classical.skolem.1 key
  obtain ⟨RR, hRR⟩ : ∃ RR : List (List (List Value)), RR = (List.range XX.length).map f := ⟨_, rfl⟩
  have hl : RR.length = XX.length := by simp [hRR]
  have hi : ∀ k (h : k < RR.length), RR[k] = f k := λ k h => by simp [hRR]
  refine ⟨RR, hl, λ k h h' => by rw [hi k h]; exact (hf k h').1, .list cf (by rw [Z0, List.length_map, hl, q1]) q2 (λ i h => by simp only [zM, List.getElem_map]; have := q3 i (by rw [Z0]; simpa [zM, hl] using h); simpa [zM] using this) (λ i j h1 h2 => q4 i j (by rw [Z0]; simpa [zM, hl] using h1) h2) q5 (λ i j h1 h2 => ?_) q7⟩
  have h' : i < RR.length := by simpa [zM] using h1
  have hj : j = 0 := by simp [zM] at h2; exact h2
  subst hj
  have e : ((zM (RR.map rwA))[i])[0] = AV.list 29 (rwA (f i)) none := by simp [zM, hi i h']
  rw [e]
  exact (hf i (by omega)).2
def csx : Nat -> List (List (List AV)) -> List AV
 | _, [] => []
 | i, x :: r => AV.list 29 x (some (TOB + i)) :: csx (i + 1) r
theorem zek : ∀ (XX : List (List (List AV))) (i : Nat), (csx i XX).length = XX.length
 | [], _ => rfl
 | x :: r, i => by simp [csx, zek r]
theorem zmi : ∀ (A B : List (List (List AV))) (i : Nat), csx i (A ++ B) = csx i A ++ csx (i + A.length) B
 | [], B, i => by simp [csx]
 | x :: A, B, i => by
  simp only [List.cons_append, csx, zmi A B (i + 1), List.length_cons]
  rw [show i + 1 + A.length = i + (A.length + 1) by omega]
theorem zmj : ∀ (XX : List (List (List AV))) (i k : Nat) (h : k < XX.length), (csx i XX)[k]? = some (AV.list 29 XX[k] (some (TOB + (i + k))))
 | x :: r, i, 0, h => by simp [csx]
 | x :: r, i, k + 1, h => by
  simp only [csx, List.getElem?_cons_succ, List.getElem_cons_succ]
  rw [zmj r (i + 1) k (by simpa using h), show i + 1 + k = i + (k + 1) by omega]
theorem zhT : ∀ (XX : List (List (List AV))) (i : Nat), (csx i XX).map datF = csx i XX
 | [], _ => rfl
 | x :: r, i => by
  have hb : Nat.ble TOB (TOB + i) = true := Nat.ble_eq_true_of_le (by omega)
  simp only [csx, List.map_cons, datF, hb, cond_true, zhT r]
theorem zjg (XX : List (List (List AV))) (he : XX.length <= 500) (hm : ∀ x ∈ XX, x.length <= 1000) (X : List (List AV)) : ∀ (d k f : Nat), k + d = XX.length -> d < f -> (Za 600).L f ((k : Int), zM XX, X, k, csx 0 (XX.take k), 0, k) = some (X, XX.length, csx 0 XX, 0, XX.length) := by
 intro d
 induction d with
 | zero =>
  intro k f hk hf
  obtain ⟨f, rfl⟩ := pS hf
  obtain rfl : k = XX.length := by omega
  rw [List.take_length]
  show (Za 600).b _ _ ((Za 600).L f) some = _
  have e2 : decide ((XX.length : Int) < (XX.length : Int)) = false := dF (by omega)
  simp only [Za]
  simp only [Z0, e2, zhT]
 | succ d ih =>
  intro k f hk hf
  obtain ⟨f, rfl⟩ := pS hf
  have hkl : k < XX.length := by omega
  have r1 := ih (k + 1) f (by omega) (by omega)
  have hlk : (XX.take k).length = k := by simp; omega
  have hcl : (csx 0 (XX.take k)).length = k := by rw [zek, hlk]
  have hn : ((csx 0 (XX.take k)).take (k * 1) ++ [AV.list 29 XX[k] (some (TOB + k))]).map datF = csx 0 (XX.take (k + 1)) := by
   rw [Nat.mul_one, List.take_of_length_le (by omega), List.take_succ_eq_append_getElem hkl, zmi, hlk, Nat.zero_add]
   have hb : Nat.ble TOB (TOB + k) = true := Nat.ble_eq_true_of_le (by omega)
   rw [List.map_append, zhT]
   simp only [csx, List.map_cons, List.map_nil, datF, hb, cond_true]
  show (Za 600).b _ _ ((Za 600).L f) some = _
  generalize (Za 600).L f = Lf at r1 |-
  have e2 : decide ((k : Int) < (XX.length : Int)) = true := dT (by omega)
  have h0 : 0 <= (k : Int) := by omega
  have hx := hm XX[k] (List.getElem_mem _)
  have b1 : ((([] : List (List AV)).length + (XX[k]).length) * 288 <= ze) = True := by unfold ze; simp; omega
  have b2 : ((True /\ 0 <= k) /\ k * 1 <= (csx 0 (XX.take k)).length /\ (k + 1) * 24 <= ze) = True := by rw [hcl]; unfold ze; simp; omega
  have g0 : ([AV.list 29 XX[k] none].drop 0)[0]? = some (AV.list 29 XX[k] none) := rfl
  simp only [Za]
  simp only [Z0, e2, h0, if_true, Int.toNat_natCast, zm3 XX k hkl, g0, zjr, b1, b2, List.nil_append, zi (show k < 1000000 by omega), hn]
  exact r1
theorem zAU (XX : List (List (List AV))) (he : XX.length <= 500) (hm : ∀ x ∈ XX, x.length <= 1000) : zbV 600 (zM XX) = some (XX.length, csx 0 XX, 0, XX.length) := by
 have h1 := zjg XX he hm [] XX.length 0 600 (by omega) (by omega)
 replace h1 : (Za 600).L 600 (0, zM XX, [], 0, [], 0, 0) = some ([], XX.length, csx 0 XX, 0, XX.length) := h1
 simp only [zbV, FSpec.d, zhr, zgc, h1, zhT]
end
section
open Go.RowKit
section
variable {B : Base} {M : Mem} {ρ : Rho} {σ : Sig} {s : AS} {a : Act} {w : World}
structure Inn (M' : Mem) (σ' : Sig) (c : Value) (R : List (List Value)) (t : Nat) where
 g : Nat
 q : Nat
 cap : Nat
 cf : Nat -> Nat -> Value
 sp : Spare
 e : c = .slice (some ⟨g, q * 29, none⟩) R.length cap
 le : R.length <= cap
 m : ∀ i j, i < R.length -> j < 29 -> M' g (q * 29 + i * 29 + j) = some (cf i j)
 one : ∀ i j, (cf i j).oneCell' = true
 c : ∀ i j (h : i < R.length) (h' : j < (R[i]).length), cf i j = R[i][j]
 tok : σ' t = some sp
 sg : sp.g = g
 hi : sp.hi = q * 29 + cap * 29
theorem zxF {M' : Mem} {ρ' : Rho} {σ' : Sig} {c : Value} {R : List (List Value)} {t : Nat} (h : Rd M' ρ' σ' c (.list 29 (rwA R) (some t))) : (R = [] /\ ∀ (M2 : Mem) (ρ2 : Rho) (σ2 : Sig), Rd M2 ρ2 σ2 c (.list 29 [] none)) \/ Nonempty (Inn M' σ' c R t) := by
 generalize hx : rwA R = xs at h
 cases h with
 | nil => exact .inl ⟨(by cases R with | nil => rfl | cons x r => cases hx), λ M2 ρ2 σ2 => .nil⟩
 | @list _ _ g off len cap _ _ _ cf q1 q2 q3 q4 q5 q6 q7 =>
  subst hx
  rw [JD] at q1
  by_cases hR : R = []
  ·subst hR
   refine .inl ⟨rfl, λ M2 ρ2 σ2 => ?_⟩
   have : len = 0 := by simpa using q1.symm
   subst this
   exact .list cf rfl q2 (λ i h => by cases h) (λ i j h => by cases h) q5 (λ i j h => by cases h) .none
  ·have hp := List.length_pos_iff.2 hR
   rcases q7 t rfl with e | ⟨sp, s1, s2, s3, s4, q, hq⟩
   ·omega
   ·subst hq
    subst q1
    refine .inr ⟨⟨g, q, cap, cf, sp, rfl, q2, λ i j hi hj => q4 i j (by rw [JD]; exact hi) hj, q5, λ i j hi hj => ?_, s1, s2, s4⟩⟩
    have h1 : i < (rwA R).length := by rw [JD]; exact hi
    have e1 : (rwA R)[i] = (R[i]).map AV.v := by simp [rwA]
    have h2 : j < ((rwA R)[i]).length := by rw [e1]; simpa using hj
    have h3 := q6 i j h1 h2
    have e2 : (rwA R)[i][j] = AV.v (R[i][j]) := by simp [rwA]
    rw [e2] at h3
    exact h3.v_inv
set_option maxHeartbeats 4000000 in
theorem thaw (h : SimW B M ρ σ s a w) {RR : List (List (List Value))} {XX : List (List (List AV))} (hl : RR.length = XX.length) (hf : ∀ k (h : k < RR.length) (h' : k < XX.length), RwF M RR[k] XX[k]) (hw : ∀ x ∈ XX, ∀ r ∈ x, r.length = 29)
  {i0 : Nat} (hi : i0 < XX.length) (hne : XX[i0] ≠ []) (f77 : s.bx 77 = none) (t77 : s.tk (vk 77) = none) (f78 : s.bx 78 = none) (t78 : s.tk (vk 78) = none) (hn : s.nin <= 77)
  {σc : Sig} {c : Value} {M' : Mem} {w' : World} {σ' : Sig} {gn : List (Option Nat)} (left : Left M w [] σc ⟨.agg [.vs 0 0 XX.length 1], [], some (csx 0 (RR.map rwA)), [], [], [], some (0, XX.length)⟩ c M' w' σ' gn) :
  ∃ (cv : Value) (q : Nat) (M2 : Mem) (ρ2 : Rho) (σ2 : Sig), c = .agg #[cv] /\ cv.oneCell' = true /\ Rd M2 ρ2 σ2 cv (.vs 77 0 XX.length 1) /\
   SimW B M2 ρ2 σ2 ((((s.ap (.box 78 (some (List.replicate (q * 29) .any ++ (XX[i0]).flatten)))).ap (.tok (vk 78) false)).ap (.box 77 (some ((XX.map λ x => AV.list 29 x none).set i0 (.vs 78 q (XX[i0]).length 29))))).ap (.tok (vk 77) false)) a w' := by
 obtain ⟨go, rfl, hb, hfr⟩ := left.new _ rfl
 have hval := left.val
 obtain ⟨N, hN⟩ : ∃ N, XX.length = N := ⟨_, rfl⟩
 rw [hN] at hval
 cases hval with
 | @agg _ _ cs _ a1 a2 a3 =>
 have hcs : cs.size = 1 := a1
 obtain ⟨cv, hcv⟩ : ∃ cv, cs[0]'(by omega) = cv := ⟨_, rfl⟩
 have r0 := a3 0 (by omega) (by simp)
 have o0 := a2 0 (by omega)
 have ecs : cs = #[cv] := by
  apply Array.ext
  ·simpa using hcs
  ·intro i h1 h2
   have : i = 0 := by simp at h2; exact h2
   subst this
   simpa using hcv
 rw [hcv] at r0 o0
 replace r0 : Rd M' (gsR ([] ++ [go])) σ' cv (.vs 0 0 N 1) := r0
 have hN0 : 0 < N := by omega
 cases r0 with
 | vsn => omega
 | vse => omega
 | @vs _ _ _ g _ _ cap _ v1 v2 v3 =>
 have hgo : go = some g := v1
 subst hgo
 have hgf := hfr g rfl
 obtain ⟨spd, d1, d2, d3⟩ := v3
 rcases hb with ⟨-, e⟩ | ⟨g', eg, ⟨ccs, ty, at1, z2, z3, z4⟩, hnone⟩
 ·cases e
 cases eg
 rw [zek, List.length_map, hl, hN] at z2
 have inn : ∀ k (hk : k < N), (RR[k]'(by omega) = [] /\ ∀ (M2 : Mem) (ρ2 : Rho) (σ2 : Sig), Rd M2 ρ2 σ2 (ccs[k]'(by omega)) (.list 29 [] none)) \/ Nonempty (Inn M' σ' (ccs[k]'(by omega)) (RR[k]'(by omega)) (TOB + k)) := λ k hk => by
  have h1 : k < (csx 0 (RR.map rwA)).length := by rw [zek, List.length_map]; omega
  have h2 := z4 k (by omega) h1
  have e := zmj (RR.map rwA) 0 k (by rw [List.length_map]; omega)
  rw [List.getElem?_eq_getElem h1, Nat.zero_add, List.getElem_map] at e
  rw [Option.some.inj e] at h2
  exact zxF h2
 have lv : ∀ k, k < N -> (⟨.agg [.vs 0 0 XX.length 1], [], some (csx 0 (RR.map rwA)), [], [], [], some (0, XX.length)⟩ : Ret).lv (TOB + k) := λ k hk => .inr ⟨0, XX.length, rfl, by omega, by omega⟩
 have fresh : ∀ k (hk : k < N) (I : Inn M' σ' (ccs[k]'(by omega)) (RR[k]'(by omega)) (TOB + k)), w.heap.size <= I.g /\ I.g ≠ g := λ k hk I => by
  obtain ⟨p1, -, -, p4⟩ := left.tok _ (lv k hk) I.sp I.tok
  rw [I.sg] at p1 p4
  refine ⟨p1.elim id λ ⟨t, ht, _⟩ => (by cases ht), λ e => p4 (by simp [e])⟩
 have lens : ∀ k (hk : k < N), (RR[k]'(by omega)).length = (XX[k]'(by omega)).length := λ k hk => (hf k (by omega) (by omega)).1
 have hi' : i0 < N := by omega
 rcases inn i0 hi' with ⟨e, -⟩ | ⟨⟨I⟩⟩
 ·have := lens i0 hi'
  rw [e] at this
  exact absurd (List.length_eq_zero_iff.1 this.symm) hne
 obtain ⟨f1, f2⟩ := fresh i0 hi' I
 obtain ⟨M2, hM2⟩ : ∃ M2 : Mem, M2 = λ g' o => if g' < w.heap.size then M g' o else if g' = g \/ g' = I.g then none else M' g' o := ⟨_, rfl⟩
 have m_old : ∀ g' o, g' < w.heap.size -> M2 g' o = M g' o := λ g' o hg => by rw [hM2]; exact if_pos hg
 have m_new : ∀ g' o, w.heap.size <= g' -> g' ≠ g -> g' ≠ I.g -> M2 g' o = M' g' o := λ g' o h1 h2 h3 => by
  rw [hM2]
  show (if _ then _ else _) = _
  rw [if_neg (by omega), if_neg (by rintro (e | e) <;> contradiction)]
 have m_no : ∀ g' o, w.heap.size <= g' -> (g' = g \/ g' = I.g) -> M2 g' o = none := λ g' o h1 h2 => by
  rw [hM2]
  show (if _ then _ else _) = _
  rw [if_neg (by omega), if_pos h2]
 have sub : ∀ g' o v, M g' o = some v -> M2 g' o = some v := λ g' o v hm => by
  by_cases hg : g' < w.heap.size
  ·rw [m_old g' o hg]; exact hm
  ·rw [h.free (by omega) o] at hm; cases hm
 have mem : ∀ g' o v, M2 g' o = some v -> w'.cell? ⟨g', o, none⟩ = some v := λ g' o v hm => by
  by_cases hg : g' < w.heap.size
  ·rw [m_old g' o hg] at hm; exact left.mem _ _ _ (left.sub _ _ _ hm)
  ·by_cases h2 : g' = g \/ g' = I.g
   ·rw [m_no g' o (by omega) h2] at hm; cases hm
   ·rw [m_new g' o (by omega) (λ e => h2 (.inl e)) (λ e => h2 (.inr e))] at hm; exact left.mem _ _ _ hm
 have up : ∀ c v, Rd M Jy jS c v -> Rd M2 Jy jS c v := λ c v hr => hr.mono sub _ _ (λ _ _ h => h) (λ _ _ h => h)
 have frm : Frm w w' (([] : List Nat).map ρ) (λ _ => False) := ⟨left.frm.os, left.frm.tape, left.frm.output, left.frm.size, λ k h1 h2 h3 => left.frm.block k h1 (by simp) λ ⟨t, ht, _⟩ => by cases ht⟩
 have h2 : SimW B M2 ρ σ s a w' := h.after (l := []) (T := λ _ => False) (λ b hb => by cases hb) sub mem (λ g' o hg _ => m_old g' o hg) frm (λ g' hg => hg.elim) (λ g' hg => hg.elim) (λ b hb => by cases hb) left.rows (λ b hb => by cases hb) [] rfl .nil
 have nox : ∀ x, w.heap.size <= x -> ∀ b, ρ b ≠ some x := λ x hx b e => by have := h.rlt b x e; omega
 have nos : ∀ x, w.heap.size <= x -> ∀ t sp, σ t = some sp -> sp.g ≠ x := λ x hx t sp hs e => by have := (h.cap t sp hs).lt; omega
 -- the zjo list's block
 have hcap := left.cap _ I.sp I.tok
 rw [I.sg, I.hi] at hcap
 obtain ⟨cc2, ty2, at2, sz2⟩ := hcap
 have hxl : (RR[i0]'(by omega)).length = (XX[i0]).length := lens i0 hi'
 have hrow : ∀ r (h : r < (XX[i0]).length), ((XX[i0])[r]).length = 29 := λ r h => hw _ (List.getElem_mem _) _ (List.getElem_mem _)
 have hle := I.le
 rw [hxl] at hle
 have hle29 : (XX[i0]).length * 29 <= I.cap * 29 := Nat.mul_le_mul_right _ hle
 have hrd : ∀ r j (h : r < (XX[i0]).length) (h' : j < ((XX[i0])[r]).length), Rd M2 Jy jS (I.cf r j) ((XX[i0])[r][j]) := λ r j h h' => by
  obtain ⟨e1, e2⟩ := hf i0 (by omega) (by omega)
  obtain ⟨e3, e4⟩ := e2 r (by omega) h
  rw [I.c r j (by omega) (by omega)]
  exact up _ _ (e4 j (by omega) h').2
 obtain ⟨fl1, fl2⟩ := SrcL.flat (M := M2) (sz := 29) (g := I.g) (off := 0) (xs := XX[i0]) (cf := I.cf) (XX[i0]) I.cf hrow hrd
 obtain ⟨E, hE⟩ : ∃ E, E = List.replicate (I.q * 29) AV.any ++ (XX[i0]).flatten := ⟨_, rfl⟩
 have hEl : E.length = I.q * 29 + (XX[i0]).length * 29 := by rw [hE, List.length_append, List.length_replicate, fl1]
 have hold2 : Hold0 M2 ρ σ w' I.g E := by
  refine ⟨cc2, ty2, at2, by omega, λ i h _ => at2.one i h, λ i h h' => ?_⟩
  by_cases hq : i < I.q * 29
  ·have : E[i] = .any := by simp only [hE]; rw [List.getElem_append_left (by simpa using hq)]; simp
   rw [this]; exact .any
  ·have h1 : i - I.q * 29 < (XX[i0]).flatten.length := by rw [fl1]; omega
   have e1 : E[i] = (XX[i0]).flatten[i - I.q * 29] := by
    simp only [hE]
    rw [List.getElem_append_right (by simp; omega)]
    simp
   rw [e1]
   have h3 := fl2 (i - I.q * 29) h1
   rw [fl1] at h1
   have hdm := Nat.div_add_mod (i - I.q * 29) 29
   have hlt : (i - I.q * 29) / 29 < (XX[i0]).length := Nat.div_lt_of_lt_mul (by omega)
   have hm := I.m ((i - I.q * 29) / 29) ((i - I.q * 29) % 29) (by omega) (Nat.mod_lt _ (by omega))
   have hc := left.mem _ _ _ hm
   rw [zV at2, show I.q * 29 + (i - I.q * 29) / 29 * 29 + (i - I.q * 29) % 29 = i by omega, Array.getElem?_eq_getElem h] at hc
   rw [Option.some.inj hc]
   exact h3.of0
 have s1 : (s.ap (.box 78 (some E))).tk (vk 78) = none := t78
 have h3 := h2.adopt 78 (by omega) f78 t78 I.g E (.inl hold2) (λ o => m_no _ o f1 (.inr rfl)) (Nat.le_trans h.size f1) (λ b _ => nox _ f1 b) (λ t sp _ hs => nos _ f1 t sp hs)
 have h4 := h3.setcap (vk 78) s1 ⟨I.g, 0, I.q * 29 + I.cap * 29⟩ ⟨cc2, ty2, at2, sz2⟩
 obtain ⟨s2, hs2⟩ : ∃ s2, s2 = (s.ap (.box 78 (some E))).ap (.tok (vk 78) false) := ⟨_, rfl⟩
 rw [<- hs2] at h4
 have b77 : s2.bx 77 = none := by
  rw [hs2]
  show (s.ap (.box 78 (some E))).bx 77 = none
  rw [AS.bx_set, if_neg (by omega)]; exact f77
 have k77 : s2.tk (vk 77) = none := by
  rw [hs2, AS.tk_set, if_neg (by unfold vk; omega)]; exact t77
 obtain ⟨D, hD⟩ : ∃ D, D = (XX.map λ x => AV.list 29 x none).set i0 (.vs 78 I.q (XX[i0]).length 29) := ⟨_, rfl⟩
 have hDl : D.length = N := by rw [hD, List.length_set, List.length_map, hN]
 have hold1 : Hold0 M2 (zae ρ 78 I.g) (jv σ (vk 78) ⟨I.g, 0, I.q * 29 + I.cap * 29⟩) w' g D := by
  refine ⟨ccs, ty, at1, by omega, λ i h _ => at1.one i h, λ k h h' => ?_⟩
  have hk : k < N := by omega
  by_cases hk0 : k = i0
  ·subst hk0
   have e1 : D[k] = .vs 78 I.q (XX[k]).length 29 := by simp only [hD]; rw [List.getElem_set_self]
   rw [e1]
   have hv : Rd M2 (zae ρ 78 I.g) (jv σ (vk 78) ⟨I.g, 0, I.q * 29 + I.cap * 29⟩) (.slice (some ⟨I.g, I.q * 29, none⟩) (RR[k]'(by omega)).length I.cap) (.vs 78 I.q (XX[k]).length 29) := by
    rw [hxl]
    exact .vs (by simp [zae]) hle ⟨⟨I.g, 0, I.q * 29 + I.cap * 29⟩, by simp [jv], rfl, by rw [Nat.add_mul]⟩
   exact Eq.mpr (congrArg (λ c => Rd M2 (zae ρ 78 I.g) (jv σ (vk 78) ⟨I.g, 0, I.q * 29 + I.cap * 29⟩) c (.vs 78 I.q (XX[k]).length 29)) I.e) hv
  ·have e1 : D[k] = AV.list 29 XX[k] none := by
    simp only [hD]
    rw [List.getElem_set_ne (by omega), List.getElem_map]
   rw [e1]
   rcases inn k hk with ⟨e, hr⟩ | ⟨⟨J⟩⟩
   ·have := lens k hk
    rw [e] at this
    rw [List.length_eq_zero_iff.1 this.symm]
    exact hr _ _ _
   ·obtain ⟨j1, j2⟩ := fresh k hk J
    have j3 : J.g ≠ I.g := λ e => by
     have := left.inj _ (lv k hk) _ (lv i0 hi') J.sp I.sp J.tok I.tok (by rw [J.sg, I.sg, e])
     omega
    obtain ⟨e2, e3⟩ := hf k (by omega) (by omega)
    rw [J.e]
    refine .list J.cf (by omega) J.le (λ r h => hw _ (List.getElem_mem _) _ (List.getElem_mem _)) (λ r j h5 h6 => ?_) J.one (λ r j h5 h6 => ?_) .none
    ·rw [m_new _ _ j1 j2 j3]; exact J.m r j (by omega) h6
    ·obtain ⟨e4, e5⟩ := e3 r (by omega) h5
     rw [J.c r j (by omega) (by omega)]
     exact up _ _ (e5 j (by omega) h6).2
 have h5 := h4.adopt 77 (by rw [hs2]; exact hn) b77 k77 g D (.inl hold1) (λ o => m_no _ o hgf (.inl rfl)) (Nat.le_trans h.size hgf) (λ b _ e => by
   unfold zae at e
   split at e
   ·exact f2 (Option.some.inj e)
   ·exact nox _ hgf b e) (λ t sp ht hs e => by
   unfold jv at hs
   split at hs
   ·rename_i ht2
    rw [ht2, hs2, AS.tk_set, if_pos rfl] at ht
    cases ht
   ·exact nos _ hgf t sp hs e)
 have hcapd := left.cap _ spd d1
 rw [d2] at hcapd
 have h6 := h5.setcap (vk 77) (show (s2.ap (.box 77 (some D))).tk (vk 77) = none from k77) spd (by rw [d2]; exact hcapd)
 refine ⟨_, I.q, M2, _, _, congrArg Value.agg ecs, o0, ?_, by rw [<- hE, <- hD, <- hs2]; exact h6⟩
 rw [hN]
 exact .vs (by simp [zae]) v2 ⟨spd, by simp [jv], d2, d3⟩
end
end
section
open Go.RowKit
set_option maxRecDepth 4000
set_option maxHeartbeats 4000000
theorem zi3 {P : Program} {T : Tab} (hT : TabOk P T) {f : FuncId} {fn : Func} (hf : P.funcs[f]? = some fn) (hname : (fn.name == "runtime.NumGoroutine") = false) {c : Code} (hc : fn.body = some c) {S : Shape} {args : List AV} {bs : List (List AV)} {r : Ret} (ru : r.use = S.use /\ r.sl = S.sl) (hle : args.length <= fn.ntmps) (huv : ∀ t ∈ S.use, ∀ k, k < bs.length -> t ≠ vk k)
  (H : ∀ (B : Base) (a : Act) (w : World) (Q : Exit -> Act -> World -> Prop), Sim B (zaJ fn.ntmps S.use S.sl args bs) a w -> (∀ e s a' w', (e = .normal \/ e = .ret) -> znm T fn S s = some r -> Sim B s a' w' -> Q e a' w') -> c.wp P Q a w) : CallOk P f args bs r := by
 obtain ⟨sh, osh, nsh, use, sl⟩ := S
 refine ⟨⟨fn, hf, hname, by rw [hc]; rfl⟩, λ M w cargs gs σ hgl mem hlt hn hl hsz hr hbx hsl0 hT0 => ?_⟩
 rw [ru.1] at hT0 hgl
 rw [ru.2] at hsl0
 obtain ⟨σ1, hσ1, hinit⟩ := zgM (nt := fn.ntmps) (args := args) (bs := bs) (use := use) (sl := sl) hle hgl mem hlt hn hl hsz hr hbx hsl0 hT0 huv
 refine callsIn_wide.1 (callsIn_of_wp_marks (F := Fence.wide) (n := 0) hf hc trivial (wpIn_wide.2 (H _ _ w _ ⟨M, _, _, hinit⟩ λ e s a w' he hk hS => ?_)))
 have fin : znm T fn ⟨sh, osh, nsh, use, sl⟩ s = some r -> LeavesInM Fence.wide 0 P fn a.tmps (λ e w' => ∃ c M' σ' gn, e = .returned c /\ Left M w gs σ r c M' w' σ' gn) a.defers .returning w' := λ hk => by
  obtain ⟨M', ρ, σ2, hs0⟩ := hS
  obtain ⟨ml, m1, m2, m3⟩ := hs0.defers
  rw [m1]
  refine Jv ml w' m2 (λ D hD => (m3 D hD).2) ?_
  have hs := SimW.unmark ml w' a hs0 m2 m3
  obtain ⟨w1, hw1⟩ : ∃ w1, zcq ml w' = w1 := ⟨_, rfl⟩
  rw [hw1] at hs |-
  clear m3 hs0 hw1
  unfold znm at hk
  split at hk
  ·rename_i vs hv
   obtain ⟨nw, hnwd⟩ : ∃ nw, ztt s vs = nw := ⟨_, rfl⟩
   rw [hnwd] at hk
   have hnw : ∀ b, nw = some b -> s.nin <= b := λ b hb => by
    rw [hb] at hnwd
    have := List.mem_of_mem_head? hnwd
    exact of_decide_eq_true (List.mem_filter.1 this).2
   obtain ⟨cs, q1, q2, q3⟩ := J1 hT hs _ _ hv
   have qr : (results fn a.tmps).run P w1 = .ok (if h : cs.toArray.size = 1 then cs.toArray[0] else .tuple cs.toArray) w1 := by
    rw [zdJ]
    simp only [Sem.run_bind]
    have : (fn.results.mapM (rv a.tmps)).run P w1 = .ok cs.toArray w1 := by
     rw [Array.mapM_eq_mapM_toList]
     show Sem.run P ((fn.results.toList.mapM _) >>= λ l => pure l.toArray) w1 = _
     rw [Sem.run_bind, q1]
     rfl
    rw [this]
    rfl
   obtain ⟨σ3, gn, hleft⟩ := zer hs hk hnw q2 q3 ru
   exact ⟨_, qr, _, M', σ3, gn, rfl, hleft⟩
  ·cases hk
 rcases he with rfl | rfl
 ·exact fin hk
 ·exact fin hk
theorem zbE {P : Program} {ops : Array Oper} {Q : Exit -> Act -> World -> Prop} {a : Act} {w : World} {i : Nat} {l : List Nat} {o : Oper} (hx : ops[i]? = some o) (hg : o.guard = none) (h : o.wp P a w (wpOps P ops Q l) Q) : wpOps P ops Q (i :: l) a w := by
 unfold wpOps
 rw [hx]
 simp only
 rw [if_pos (by unfold Region.wanted; rw [hg])]
 exact .inl h
def sqL : Code -> Code
 | .seq a _ => a
 | _ => .skip
def sqR : Code -> Code
 | .seq _ b => b
 | _ => .skip
def rgO : Code -> Array Oper
 | .region _ o _ => o
 | _ => #[]
noncomputable abbrev TB : Tab := zaa Tryz.prog
noncomputable def G12 : GamK := gam (P := Tryz.prog) [zdV 600, znv 600, zrs 600, zvx 600]
noncomputable def zsR : Code := Tryz.f12.body.getD .skip
noncomputable def b1 : Code := sqR zsR
noncomputable def b2 : Code := sqR b1
noncomputable def b3 : Code := sqR b2
noncomputable def b4 : Code := sqR b3
noncomputable def b5 : Code := sqR b4
noncomputable def b6 : Code := sqR b5
def zqF : Nat -> Keep × Keep := anF [] [(100020, ([], [((5, 0), 1)]))]
noncomputable abbrev zh0 {α : Type} (c : Code) (s : AS) (K : Exit -> AS -> Option α) : Option α := jw TB G12 zqF (lam 600 []) c 0 s K
noncomputable abbrev kp2 : Exit -> AS -> Option (Exit × AS) := λ e s => some (e, s)
theorem ztW {B : Base} {s s' : AS} {a : Act} {w : World} {e : Exit} (c : Code) (hl : zb7 zqF c 0 = []) (h : zh0 c s kp2 = some (e, s')) (hS : Sim B s a w) (Q : Exit -> Act -> World -> Prop) (hQ : ∀ a' w', Sim B s' a' w' -> Q e a' w') : c.wp Tryz.prog Q a w :=
 JI (zc Tryz.prog) (ZT _) zf zqF (lam 600 []) c 0 (λ p hp hact => by have := List.mem_filter.2 ⟨hp, hact⟩; rw [show (zL c 0).filter (zeM zqF) = [] from hl] at this; cases this) (Exit × AS) s kp2 (e, s') B a w Q h hS λ e1 s1 a' w' hk hS' => by
  have hk' := Option.some.inj hk
  cases hk'
  exact hQ a' w' hS'
noncomputable def st0 (X Lr : List (List AV)) (p : Int) : AS := zaJ 92 [] [] [AV.ptr 0 0, AV.agg [AV.list 1 X none]] [[AV.list 1 Lr none, AV.v (.int .i64 p)]]
noncomputable def st1 (X Lr : List (List AV)) (p : Int) : AS := (st0 X Lr p).aps [.box 3 (some [AV.list 1 X none]), .env 3 (.ptr 3 0), .box 4 (some [AV.v (.slice none 0 0)]), .env 4 (.ptr 4 0)]
noncomputable def st2 (X Lr : List (List AV)) (p : Int) : AS := (st1 X Lr p).ap (.env 8 (.agg [AV.list 1 X none]))
def DD (XX : List (List (List AV))) (i0 q n : Nat) : List AV := (XX.map λ x => AV.list 29 x none).set i0 (.vs 78 q n 29)
def EE (x : List (List AV)) (q : Nat) : List AV := List.replicate (q * 29) AV.any ++ x.flatten
noncomputable def st3 (X Lr : List (List AV)) (p : Int) (N : Nat) (D E : List AV) : AS := (((((st2 X Lr p).ap (.box 78 (some E))).ap (.tok (vk 78) false)).ap (.box 77 (some D))).ap (.tok (vk 77) false)).ap (.env 9 (.agg [.vs 77 0 N 1]))
noncomputable def st4 (X Lr : List (List AV)) (p : Int) (N : Nat) (D E : List AV) : AS := (st3 X Lr p N D E).aps [.box 5 (some [AV.v (.slice none 0 0)]), .env 5 (.ptr 5 0), .box 5 (some [.vs 77 0 N 1])]
theorem zBb (X Lr : List (List AV)) (p : Int) : zh0 (sqL zsR) (st0 X Lr p) kp2 = some (.normal, st1 X Lr p) := by kernel_rfl
theorem zx6 : sqL b1 = .region 1 (rgO (sqL b1)) false := by kernel_rfl
theorem zBd : (rgO (sqL b1)).size = 4 := by kernel_rfl
theorem zBc {B : Base} {Lr : List (List AV)} {p : Int} {XX : List (List (List AV))} (hX : XX.length <= 500) (hm : ∀ x ∈ XX, x.length <= 1000) (hw : ∀ x ∈ XX, ∀ r ∈ x, r.length = 29) {i0 : Nat} (hi : i0 < XX.length) (hne : XX[i0] ≠ []) {a : Act} {w : World} (hS : Sim B (st1 (zM XX) Lr p) a w) (Q : Exit -> Act -> World -> Prop)
  (hQ : ∀ (q : Nat) a' w', Sim B (st4 (zM XX) Lr p XX.length (DD XX i0 q (XX[i0]).length) (EE XX[i0] q)) a' w' -> Q .normal a' w') : (sqL b1).wp Tryz.prog Q a w := by
 rw [zx6]
 refine wp_region ?_
 rw [zBd]
 show wpOps Tryz.prog (rgO (sqL b1)) Q [0, 1, 2, 3] a w
 obtain ⟨o0, h0, g0, e0⟩ : ∃ o, (rgO (sqL b1))[0]? = some o /\ o.guard = none /\ ∀ X Lr p, JE TB G12.v o (st1 X Lr p) = some [.env 8 (.agg [AV.list 1 X none])] := ⟨_, rfl, rfl, λ X Lr p => by kernel_rfl⟩
 refine zbE h0 g0 (zeK (zc Tryz.prog) (ZT _) hS (e0 _ _ _) _ _ λ a1 w1 hS1 => ?_)
 obtain ⟨o1, h1, g1, d1, e1⟩ : ∃ o, (rgO (sqL b1))[1]? = some o /\ o.guard = none /\ o.dst = some 9 /\ o.op = .call { callee := .value (.func 44), args := #[.tmp 8], argTypes := #[24] } := ⟨_, rfl, rfl, rfl, rfl⟩
 refine zbE h1 g1 ?_
 obtain ⟨M, ρ, σ, h⟩ := hS1
 replace h : SimW B M ρ σ (st2 (zM XX) Lr p) a1 w1 := h
 have hv := h.env 8
 replace hv : Rd M ρ σ (a1.tmps.getD 8 undef) (.agg [AV.list 1 (zM XX) none]) := hv
 generalize hcv : a1.tmps.getD 8 undef = cv8 at hv
 cases hv with
 | @agg _ _ cs _ q1 q2 q3 =>
 have hcs : cs.size = 1 := q1
 obtain ⟨RR, k1, k2, k3⟩ := ztU (q3 0 (by omega) (by simp))
 have hlen : (RR.map rwA).length = XX.length := by rw [List.length_map, k1]
 have hcopy := zAU (RR.map rwA) (by omega) (λ x hx => by
  obtain ⟨R, hR, rfl⟩ := List.mem_map.1 hx
  obtain ⟨j, hj, rfl⟩ := List.getElem_of_mem hR
  rw [JD, (k2 j hj (by omega)).1]
  exact hm _ (List.getElem_mem _))
 have hcall : CallOk Tryz.prog 44 [AV.agg [AV.list 1 (zM (RR.map rwA)) none]] [] ⟨.agg [.vs 0 0 XX.length 1], [], some (csx 0 (RR.map rwA)), [], [], [], some (0, XX.length)⟩ := by
  have := (zk1 600).ok _ _ hcopy
  rw [hlen] at this
  exact this
 have hra : Rd M ρ σ (.agg cs) (.agg [AV.list 1 (zM (RR.map rwA)) none]) := by
  refine .agg q1 q2 λ i h h' => ?_
  have : i = 0 := by simp at h'; exact h'
  subst this
  exact k3
 obtain ⟨⟨fn, w1', w2', w3'⟩, call⟩ := hcall
 have hWs : ∃ W, zbt (st2 (zM XX) Lr p) [] o1.dst (zaK (st2 (zM XX) Lr p) 0 [AV.agg [AV.list 1 (zM (RR.map rwA)) none]] ++ jN (st2 (zM XX) Lr p) 0 []) ⟨.agg [.vs 0 0 XX.length 1], [], some (csx 0 (RR.map rwA)), [], [], [], some (0, XX.length)⟩ = some W := by
  rw [d1]
  exact ⟨_, rfl⟩
 obtain ⟨W, hW⟩ := hWs
 have hargs : Jg (st2 (zM XX) Lr p) (idx []) 0 [AV.agg [AV.list 1 (zM (RR.map rwA)) none]] = [AV.agg [AV.list 1 (zM (RR.map rwA)) none]] := rfl
 obtain ⟨σ0, C, -, -⟩ := zcm (Z := λ M w cargs gs σ => Calls Tryz.prog 44 cargs w λ e w' => ∃ c M' σ' gn, e = .returned c /\ Left M w gs σ ⟨.agg [.vs 0 0 XX.length 1], [], some (csx 0 (RR.map rwA)), [], [], [], some (0, XX.length)⟩ c M' w' σ' gn) (o := o1) (cargs := #[.agg cs]) (vs := [AV.agg [AV.list 1 (zM (RR.map rwA)) none]]) (l := []) (bs := []) h rfl (λ i h1 h2 => by
   have : i = 0 := by simp at h2; exact h2
   subst this
   exact hra) rfl rfl hW (by rw [hargs]; exact call)
 unfold Oper.wp
 have ex : (execOp a1.eval o1).run Tryz.prog w1 = .ok (.enter 44 #[.agg cs]) w1 := by
  unfold execOp
  have hq : a1.eval (.func 44) = .func (.func 44) #[] #[] := rfl
  have hq8 : a1.eval (.tmp 8) = .agg cs := hcv
  simp only [e1, resolve, hq, Deferred.ofValue, Sem.run_bind, Sem.run_pure, Result.andThen_ok, invoke, callFunc]
  have q2' : ¬ (fn.name = "runtime.NumGoroutine") := λ e => by rw [e] at w2'; simp at w2'
  have q3' : ¬ (fn.body = none) := λ e => by rw [e] at w3'; simp at w3'
  simp [w1', q2', q3', hq8]
 rw [ex, Oper.upon_enter]
 refine C.mono λ e w' ⟨c, M', σ', gn, he, left⟩ => ?_
 subst he
 obtain ⟨cv, q, M2, ρ2, σ2, rfl, c2, c3, c4⟩ := thaw h (by omega) k2 hw hi hne rfl rfl rfl rfl (show 1 <= 77 by omega) left
 have h5 := c4.put (c := .agg #[cv]) (v := .agg [.vs 77 0 XX.length 1]) (.agg rfl (λ i hi => by
   have : i = 0 := by simpa using hi
   subst this; exact c2) (λ i hi hi' => by
   have : i = 0 := by simpa using hi
   subst this; exact c3)) 9
 rw [d1]
 replace h5 : Sim B (st3 (zM XX) Lr p XX.length (DD XX i0 q (XX[i0]).length) (EE XX[i0] q)) (a1.put (some 9) (.agg #[cv])) w' := ⟨_, _, _, h5⟩
 obtain ⟨o2, h2, g2, e2⟩ : ∃ o, (rgO (sqL b1))[2]? = some o /\ o.guard = none /\ ∀ X Lr p N D E, JE TB G12.v o (st3 X Lr p N D E) = some [.box 5 (some [AV.v (.slice none 0 0)]), .env 5 (.ptr 5 0)] := ⟨_, rfl, rfl, λ X Lr p N D E => by kernel_rfl⟩
 refine zbE h2 g2 (zeK (zc Tryz.prog) (ZT _) h5 (e2 _ _ _ _ _ _) _ _ λ a2 w2 hS2 => ?_)
 obtain ⟨o3, h3, g3, e3⟩ : ∃ o, (rgO (sqL b1))[3]? = some o /\ o.guard = none /\ ∀ X Lr p N D E, JE TB G12.v o ((st3 X Lr p N D E).aps [.box 5 (some [AV.v (.slice none 0 0)]), .env 5 (.ptr 5 0)]) = some [.box 5 (some [.vs 77 0 N 1])] := ⟨_, rfl, rfl, λ X Lr p N D E => by kernel_rfl⟩
 refine zbE h3 g3 (zeK (zc Tryz.prog) (ZT _) hS2 (e3 _ _ _ _ _ _) _ _ λ a3 w3 hS3 => ?_)
 exact hQ q a3 w3 hS3
end
section
open Go.RowKit
set_option maxRecDepth 4000
set_option maxHeartbeats 4000000
noncomputable def st5 (X Lr : List (List AV)) (p : Int) (N : Nat) (D E : List AV) : AS := (st4 X Lr p N D E).aps [.env 10 (.ptr 5 0), .env 11 (.vs 77 0 N 1), .env 12 (.v (.int .i64 (N : Int))), .env 13 (.v (.bool ((N : Int) == 0)))]
theorem zBe (X Lr : List (List AV)) (p : Int) (N : Nat) (D E : List AV) : zh0 (sqL (sqL b2)) (st4 X Lr p N D E) kp2 = some (.normal, st5 X Lr p N D E) := by kernel_rfl
theorem zAP : ∃ A, sqR (sqL b2) = .cond (.tmp 13) A .skip := ⟨_, rfl⟩
theorem zBf {B : Base} {X Lr : List (List AV)} {p : Int} {N : Nat} (hN : 0 < N) {D E : List AV} {a : Act} {w : World} (hS : Sim B (st4 X Lr p N D E) a w) (Q : Exit -> Act -> World -> Prop) (hQ : ∀ a' w', Sim B (st5 X Lr p N D E) a' w' -> Q .normal a' w') : (sqL b2).wp Tryz.prog Q a w := by
 show (Code.seq (sqL (sqL b2)) (sqR (sqL b2))).wp Tryz.prog Q a w
 refine wp_seq (ztW _ (by kernel_rfl) (zBe X Lr p N D E) hS _ λ a1 w1 hS1 => ?_)
 obtain ⟨A, hA⟩ := zAP
 show (sqR (sqL b2)).wp Tryz.prog Q a1 w1
 rw [hA]
 have hS2 := hS1
 obtain ⟨M, ρ, σ, h⟩ := hS1
 have hc := h.env 13
 replace hc : Rd M ρ σ (a1.tmps.getD 13 undef) (.v (.bool ((N : Int) == 0))) := hc
 have e : ((N : Int) == 0) = false := by simp; omega
 rw [e] at hc
 exact wp_cond_false hc.v_inv (wp_skip (hQ a1 w1 hS2))
noncomputable def st6 (X Lr : List (List AV)) (p : Int) (N : Nat) (D E : List AV) (y : Int × List (List AV) × Int) : AS := (st5 X Lr p N D E).aps [.env 15 (.ptr 5 0), .env 16 (.vs 77 0 N 1), .env 17 (.ptr 0 0), .env 18 (.ptr 5 0), .env 19 (.vs 77 0 N 1), .env 20 (.v (.int .i64 (N : Int))), .box 0 (some []), .box 0 (some [AV.list 1 y.2.1 none, AV.v (.int .i64 y.2.2)]), .env 21 (.v (.int .i64 y.1)), .env 22 (.ptr 77 ((0 + y.1.toNat) * 1)), .env 6 (.ptr 77 ((0 + y.1.toNat) * 1))]
theorem zBg (X Lr : List (List AV)) (p : Int) (N : Nat) (D E : List AV) : zh0 (sqL b3) (st5 X Lr p N D E) kp2 = (match zN 600 ((N : Int), Lr, p) with | some y => (if 0 <= y.1 /\ y.1 < (N : Int) then some (.normal, st6 X Lr p N D E y) else none) | none => none) := by kernel_rfl
theorem zBh {B : Base} {X Lr : List (List AV)} {p : Int} {N : Nat} {D E : List AV} {i0 : Nat} (hi : i0 < N) {p1 : Int} (h1 : zN 600 ((N : Int), Lr, p) = some ((i0 : Int), Lr, p1)) {a : Act} {w : World} (hS : Sim B (st5 X Lr p N D E) a w) (Q : Exit -> Act -> World -> Prop) (hQ : ∀ a' w', Sim B (st6 X Lr p N D E ((i0 : Int), Lr, p1)) a' w' -> Q .normal a' w') : (sqL b3).wp Tryz.prog Q a w := by
 have e := zBg X Lr p N D E
 rw [h1] at e
 exact ztW _ (by kernel_rfl) (e.trans (if_pos (by dsimp only; omega))) hS Q hQ
def zyr (ops : List Oper) : AS -> List Oper -> List (List Wr) -> Trc
 | s, o :: os, W :: Ws => (W, ZC ops s o) :: zyr ops (s.aps W) os Ws
 | _, _, _ => []
theorem zhS {T : Tab} {Γ : Gam} {ops : List Oper} : ∀ (os : List Oper) (Ws : List (List Wr)) (s : AS), os.length = Ws.length -> (∀ i (h : i < os.length) (h' : i < Ws.length), ZU T Γ ops os[i] ((Ws.take i).foldl AS.aps s) = some Ws[i]) -> zeN T Γ ops os s = some (zyr ops s os Ws, Ws.foldl AS.aps s)
 | [], [], s, _, _ => rfl
 | o :: os, W :: Ws, s, hl, h => by
  have h0 := h 0 (by simp) (by simp)
  have ih := zhS os Ws (s.aps W) (by simpa using hl) λ i hi hi' => h (i + 1) (by simpa using hi) (by simpa using hi')
  have h0' : ZU T Γ ops o s = some W := h0
  unfold zeN
  rw [h0']
  simp only [ih, zyr, List.foldl_cons]
noncomputable def op5 : List Oper := (rgO (sqL b4)).toList
theorem zx7 : sqL b4 = .region 5 (rgO (sqL b4)) true := by kernel_rfl
noncomputable def W5 (off q n : Nat) (y : Int × List (List AV) × Int) : List (List Wr) := [[.env 23 (.ptr 77 off)], [.env 24 (.ptr 77 off)], [.env 25 (.ptr 77 (off + 0))], [.env 26 (.vs 78 q n 29)], [.env 27 (.ptr 0 0)], [.env 28 (.ptr 77 off)], [.env 29 (.ptr 77 off)], [.env 30 (.ptr 77 (off + 0))], [.env 31 (.vs 78 q n 29)], [.env 32 (.v (.int .i64 (n : Int)))], [.box 0 (some []), .box 0 (some [AV.list 1 y.2.1 none, AV.v (.int .i64 y.2.2)]), .env 33 (.v (.int .i64 y.1))], [.env 34 (.ptr 78 ((q + y.1.toNat) * 29))], [.env 7 (.ptr 78 ((q + y.1.toNat) * 29))]]
noncomputable def st7 (s : AS) (off q n : Nat) (y : Int × List (List AV) × Int) : AS := (W5 off q n y).foldl AS.aps s
noncomputable def zjK (X Lr : List (List AV)) (p : Int) (N : Nat) (D E : List AV) (i0 : Nat) (p1 : Int) : AS := (st5 X Lr p N D E).aps [.env 15 (.ptr 5 0), .env 16 (.vs 77 0 N 1), .env 17 (.ptr 0 0), .env 18 (.ptr 5 0), .env 19 (.vs 77 0 N 1), .env 20 (.v (.int .i64 (N : Int))), .box 0 (some []), .box 0 (some [AV.list 1 Lr none, AV.v (.int .i64 p1)]), .env 21 (.v (.int .i64 (i0 : Int))), .env 22 (.ptr 77 i0), .env 6 (.ptr 77 i0)]
theorem zyl (X Lr : List (List AV)) (p : Int) (N : Nat) (D E : List AV) (i0 : Nat) (p1 : Int) : st6 X Lr p N D E ((i0 : Int), Lr, p1) = zjK X Lr p N D E i0 p1 := by
 unfold st6 zjK
 simp only [Int.toNat_natCast, Nat.zero_add, Nat.mul_one]
def dumO : Oper := { dst := none, op := .move (.tmp 0), type := 0, pos := "", after := #[], guard := none }
noncomputable def o5 (k : Nat) : Oper := (op5[k]?).getD dumO
theorem zxV : op5 = [o5 0, o5 1, o5 2, o5 3, o5 4, o5 5, o5 6, o5 7, o5 8, o5 9, o5 10, o5 11, o5 12] := by kernel_rfl
noncomputable def sm (X Lr : List (List AV)) (p : Int) (N : Nat) (D E : List AV) (i0 : Nat) (p1 : Int) (q n : Nat) (y : Int × List (List AV) × Int) (k : Nat) : AS := ((W5 i0 q n y).take k).foldl AS.aps (zjK X Lr p N D E i0 p1)
section
variable (X Lr : List (List AV)) (p : Int) (N : Nat) (D E : List AV) (i0 : Nat) (p1 : Int) (q n : Nat) (y : Int × List (List AV) × Int)
theorem g5_0 : ZU TB G12.v op5 (o5 0) (sm X Lr p N D E i0 p1 q n y 0) = some [.env 23 (.ptr 77 i0)] := by kernel_rfl
theorem g5_1 : ZU TB G12.v op5 (o5 1) (sm X Lr p N D E i0 p1 q n y 1) = some [.env 24 (.ptr 77 i0)] := by kernel_rfl
theorem g5_2 : ZU TB G12.v op5 (o5 2) (sm X Lr p N D E i0 p1 q n y 2) = some [.env 25 (.ptr 77 (i0 + 0))] := by kernel_rfl
theorem g5_3 : zcR TB G12 (o5 3) (sm X Lr p N D E i0 p1 q n y 3) some = (match D[i0]? with | some x => zcw (.slice 82) x (λ v => some [Wr.env 26 v]) | none => none) := by kernel_rfl
theorem g5_4 : ZU TB G12.v op5 (o5 4) (sm X Lr p N D E i0 p1 q n y 4) = some [.env 27 (.ptr 0 0)] := by kernel_rfl
theorem g5_5 : ZU TB G12.v op5 (o5 5) (sm X Lr p N D E i0 p1 q n y 5) = some [.env 28 (.ptr 77 i0)] := by kernel_rfl
theorem g5_6 : ZU TB G12.v op5 (o5 6) (sm X Lr p N D E i0 p1 q n y 6) = some [.env 29 (.ptr 77 i0)] := by kernel_rfl
theorem g5_7 : ZU TB G12.v op5 (o5 7) (sm X Lr p N D E i0 p1 q n y 7) = some [.env 30 (.ptr 77 (i0 + 0))] := by kernel_rfl
theorem g5_8 : zcR TB G12 (o5 8) (sm X Lr p N D E i0 p1 q n y 8) some = (match D[i0]? with | some x => zcw (.slice 82) x (λ v => some [Wr.env 31 v]) | none => none) := by kernel_rfl
theorem g5_9 : ZU TB G12.v op5 (o5 9) (sm X Lr p N D E i0 p1 q n y 9) = some [.env 32 (.v (.int .i64 (n : Int)))] := by kernel_rfl
theorem zA3 : zcR TB G12 (o5 10) (sm X Lr p N D E i0 p1 q n y 10) some = (match zN 600 ((n : Int), Lr, p1) with | some z => some [.box 0 (some []), .box 0 (some [AV.list 1 z.2.1 none, AV.v (.int .i64 z.2.2)]), .env 33 (.v (.int .i64 z.1))] | none => none) := by kernel_rfl
theorem zA4 : zcR TB G12 (o5 11) (sm X Lr p N D E i0 p1 q n y 11) some = (if 0 <= y.1 /\ y.1 < (n : Int) then some [.env 34 (.ptr 78 ((q + y.1.toNat) * 29))] else none) := by kernel_rfl
theorem zA5 : ZU TB G12.v op5 (o5 12) (sm X Lr p N D E i0 p1 q n y 12) = some [.env 7 (.ptr 78 ((q + y.1.toNat) * 29))] := by kernel_rfl
theorem noc5 : zdI (zyr op5 (zjK X Lr p N D E i0 p1) [o5 0, o5 1, o5 2, o5 3, o5 4, o5 5, o5 6, o5 7, o5 8, o5 9, o5 10, o5 11, o5 12] (W5 i0 q n y)) (zsS op5 []) 0 = true := by kernel_rfl
theorem zAX : zjh (rgO (sqL b4)) = true := by kernel_rfl
end
theorem zyC {o : Oper} {s : AS} {W : List Wr} (hg : o.guard = none) (h : zcR TB G12 o s some = some W) : ZU TB G12.v op5 o s = some W := by
 unfold ZU zjH
 rw [hg]
 obtain ⟨W', h1, h2⟩ := zeJ h
 cases h2
 exact h1
theorem run5 {X Lr : List (List AV)} {p : Int} {N : Nat} {D E : List AV} {i0 : Nat} {p1 : Int} {q n j : Nat} {p2 : Int} (hD : D[i0]? = some (.vs 78 q n 29)) (h1 : zN 600 ((n : Int), Lr, p1) = some ((j : Int), Lr, p2)) (hj : j < n) :
  zeN TB G12.v op5 op5 (zjK X Lr p N D E i0 p1) = some (zyr op5 (zjK X Lr p N D E i0 p1) [o5 0, o5 1, o5 2, o5 3, o5 4, o5 5, o5 6, o5 7, o5 8, o5 9, o5 10, o5 11, o5 12] (W5 i0 q n ((j : Int), Lr, p2)), st7 (zjK X Lr p N D E i0 p1) i0 q n ((j : Int), Lr, p2)) := by
 have e3 := g5_3 X Lr p N D E i0 p1 q n ((j : Int), Lr, p2)
 have e8 := g5_8 X Lr p N D E i0 p1 q n ((j : Int), Lr, p2)
 have e10 := zA3 X Lr p N D E i0 p1 q n ((j : Int), Lr, p2)
 have e11 := zA4 X Lr p N D E i0 p1 q n ((j : Int), Lr, p2)
 rw [hD] at e3 e8
 rw [h1] at e10
 replace e11 := e11.trans (if_pos (by dsimp only; omega))
 have k3 := zyC (o := o5 3) (by kernel_rfl) e3
 have k8 := zyC (o := o5 8) (by kernel_rfl) e8
 have k10 := zyC (o := o5 10) (by kernel_rfl) e10
 have k11 := zyC (o := o5 11) (by kernel_rfl) e11
 have h := zhS (T := TB) (Γ := G12.v) (ops := op5) [o5 0, o5 1, o5 2, o5 3, o5 4, o5 5, o5 6, o5 7, o5 8, o5 9, o5 10, o5 11, o5 12] (W5 i0 q n ((j : Int), Lr, p2)) (zjK X Lr p N D E i0 p1) rfl λ i hi hi' => by
  rcases (show i = 0 \/ i = 1 \/ i = 2 \/ i = 3 \/ i = 4 \/ i = 5 \/ i = 6 \/ i = 7 \/ i = 8 \/ i = 9 \/ i = 10 \/ i = 11 \/ i = 12 by have : i < 13 := hi; omega) with rfl | rfl | rfl | rfl | rfl | rfl | rfl | rfl | rfl | rfl | rfl | rfl | rfl
  ·exact g5_0 X Lr p N D E i0 p1 q n ((j : Int), Lr, p2)
  ·exact g5_1 X Lr p N D E i0 p1 q n ((j : Int), Lr, p2)
  ·exact g5_2 X Lr p N D E i0 p1 q n ((j : Int), Lr, p2)
  ·exact k3
  ·exact g5_4 X Lr p N D E i0 p1 q n ((j : Int), Lr, p2)
  ·exact g5_5 X Lr p N D E i0 p1 q n ((j : Int), Lr, p2)
  ·exact g5_6 X Lr p N D E i0 p1 q n ((j : Int), Lr, p2)
  ·exact g5_7 X Lr p N D E i0 p1 q n ((j : Int), Lr, p2)
  ·exact k8
  ·exact g5_9 X Lr p N D E i0 p1 q n ((j : Int), Lr, p2)
  ·exact k10
  ·exact k11
  ·exact zA5 X Lr p N D E i0 p1 q n ((j : Int), Lr, p2)
 rw [show zeN TB G12.v op5 op5 = zeN TB G12.v op5 [o5 0, o5 1, o5 2, o5 3, o5 4, o5 5, o5 6, o5 7, o5 8, o5 9, o5 10, o5 11, o5 12] from congrArg (zeN TB G12.v op5) zxV]
 exact h
theorem zBi {B : Base} {X Lr : List (List AV)} {p : Int} {N : Nat} {D E : List AV} {i0 : Nat} {p1 : Int} {q n j : Nat} {p2 : Int} (hD : D[i0]? = some (.vs 78 q n 29)) (h1 : zN 600 ((n : Int), Lr, p1) = some ((j : Int), Lr, p2)) (hj : j < n) {a : Act} {w : World} (hS : Sim B (zjK X Lr p N D E i0 p1) a w) (Q : Exit -> Act -> World -> Prop) (hQ : ∀ a' w', Sim B (st7 (zjK X Lr p N D E i0 p1) i0 q n ((j : Int), Lr, p2)) a' w' -> Q .normal a' w') : (sqL b4).wp Tryz.prog Q a w := by
 rw [zx7]
 refine wp_region_any zf ?_
 have ea : rgO (sqL b4) = op5.toArray := by unfold op5; simp
 have hd := zAX
 rw [ea] at hd |-
 exact zl4 (zc Tryz.prog) (ZT _) hd (run5 hD h1 hj) (noc5 _ _ _ _ _ _ _ _ _ _ _) hS hQ
end
section
open Go.RowKit
set_option maxRecDepth 4000
set_option maxHeartbeats 4000000
def fe (s : AS) : AS := { s with env := s.env.mapIdx λ i v => bif (i == 4 || i == 5) then v else .any }
theorem zA2 {B : Base} {s : AS} {a : Act} {w : World} (hS : Sim B s a w) : Sim B (fe s) a w := by
 obtain ⟨M, ρ, σ, h⟩ := hS
 refine ⟨M, ρ, σ, { h with len := by simp [fe, h.len], env := λ t => ?_ }⟩
 have e : (fe s).at t = s.at t \/ (fe s).at t = .any := by
  unfold AS.at fe
  simp only [List.getElem?_mapIdx]
  cases s.env[t]? with
  | none => exact .inr rfl
  | some v =>
   simp only [Option.map_some, Option.getD_some]
   cases (t == 4 || t == 5)
   ·exact .inr rfl
   ·exact .inl rfl
 rcases e with e | e
 ·rw [e]; exact h.env t
 ·rw [e]; exact .any
def f8 (s : AS) (bx : List (Nat × Option (List AV))) (tk : List (Nat × Bool)) : AS := fe { s with box := bx ++ s.box, tok := tk ++ s.tok }
noncomputable def s7 (X Lr : List (List AV)) (p : Int) (N : Nat) (D E : List AV) (i0 : Nat) (p1 : Int) (q n j : Nat) (p2 : Int) (o : Nat) : AS := (zjK X Lr p N D E i0 p1).aps [.env 23 (.ptr 77 i0), .env 24 (.ptr 77 i0), .env 25 (.ptr 77 (i0 + 0)), .env 26 (.vs 78 q n 29), .env 27 (.ptr 0 0), .env 28 (.ptr 77 i0), .env 29 (.ptr 77 i0), .env 30 (.ptr 77 (i0 + 0)), .env 31 (.vs 78 q n 29), .env 32 (.v (.int .i64 (n : Int))), .box 0 (some []), .box 0 (some [AV.list 1 Lr none, AV.v (.int .i64 p2)]), .env 33 (.v (.int .i64 (j : Int))), .env 34 (.ptr 78 o), .env 7 (.ptr 78 o)]
theorem zBk (X Lr : List (List AV)) (p : Int) (N : Nat) (D E : List AV) (i0 : Nat) (p1 : Int) (q n j : Nat) (p2 : Int) : st7 (zjK X Lr p N D E i0 p1) i0 q n ((j : Int), Lr, p2) = s7 X Lr p N D E i0 p1 q n j p2 ((q + j) * 29) := by
 unfold s7 st7 W5
 simp only [Int.toNat_natCast]
 rfl
def bx0 (y : List (List AV) × Int) : List (Nat × Option (List AV)) := [(0, some [AV.list 1 y.1 none, AV.v (.int .i64 y.2)]), (0, some [])]
noncomputable abbrev kfe : Exit -> AS -> Option (Exit × AS) := λ e s => some (e, fe s)
def opA : List (List AV) := [[(AV.v (.int .i64 (-1)))], [(AV.v (.int .i64 0))], [(AV.v (.int .i64 18014398509481984))], [(AV.v (.int .i64 18014398509481985))]]
def opT : List (List AV) := [[(AV.v (.string (⟨#[]⟩ : ByteArray)))], [(AV.v (.string (⟨#[97, 110, 110]⟩ : ByteArray)))], [(AV.v (.string (⟨#[65, 110, 110]⟩ : ByteArray)))], [(AV.v (.string (⟨#[97, 98, 99, 100, 101, 102, 103, 104, 105, 106, 107, 108, 109, 110, 111, 112, 113]⟩ : ByteArray)))]]
theorem zx8 (X Lr : List (List AV)) (p : Int) (N : Nat) (D E : List AV) (i0 : Nat) (p1 : Int) (q n j : Nat) (p2 : Int) (o : Nat) : zh0 (sqL b5) (s7 X Lr p N D E i0 p1 q n j p2 o) kfe =
 (match zN 600 (7, Lr, p2) with
 | some y3 => (match (y3.1 == 0) with
  | true => (match zN 600 (9, y3.2) with
   | some y4 => (if (o + 0) + 1 <= E.length then some (.normal, f8 (s7 X Lr p N D E i0 p1 q n j p2 o) ((78, some (splice E (o + 0) [AV.v (.int .i64 (i64 (y4.1 - 1)))])) :: (bx0 y4.2 ++ bx0 y3.2)) []) else none)
   | none => none)
  | false => (match (y3.1 == 1) with
   | true => (match zcW 600 (opA, y3.2) with
    | some y5 => (if (o + 1) + 1 <= E.length then some (.normal, f8 (s7 X Lr p N D E i0 p1 q n j p2 o) ((78, some (splice E (o + 1) [AV.v (.int .i64 y5.1)])) :: (bx0 y5.2 ++ bx0 y3.2)) [(3840, true)]) else none)
    | none => none)
   | false => (match (y3.1 == 2) with
    | true => (match Ji 600 (opT, y3.2) with
     | some y6 => (if (o + 2) + 1 <= E.length then some (.normal, f8 (s7 X Lr p N D E i0 p1 q n j p2 o) ((78, some (splice E (o + 2) [AV.v (.string y6.1)])) :: (bx0 y6.2 ++ bx0 y3.2)) [(4352, true)]) else none)
     | none => none)
    | false => (match (y3.1 == 3) with
     | true => (match zN 600 (5, y3.2) with
      | some y7 => (if (o + 3) + 1 <= E.length then some (.normal, f8 (s7 X Lr p N D E i0 p1 q n j p2 o) ((78, some (splice E (o + 3) [AV.v (.int .i64 (i64 (y7.1 - 1)))])) :: (bx0 y7.2 ++ bx0 y3.2)) []) else none)
      | none => none)
     | false => (match (y3.1 == 4) with
      | true => (match znx 600 () with
       | some y8 => (if (o + 4) + 25 <= E.length then some (.normal, f8 (s7 X Lr p N D E i0 p1 q n j p2 o) ((78, some (splice E (o + 4) (zu y8))) :: bx0 y3.2) []) else none)
       | none => none)
      | false => (match (y3.1 == 5) with
       | true => (if (i0 + 0) + 1 <= D.length then some (.normal, f8 (s7 X Lr p N D E i0 p1 q n j p2 o) ((77, some (splice D (i0 + 0) [AV.v (.slice none 0 0)])) :: bx0 y3.2) []) else none)
       | false => (match E[((o + 4) + 0) + 4]? with
        | some x9 => (match x9 with
         | .v (.int q11 n10) => (if q11 = .i64 then (if (((o + 4) + 0) + 4) + 1 <= E.length then some (.normal, f8 (s7 X Lr p N D E i0 p1 q n j p2 o) ((78, some (splice E (((o + 4) + 0) + 4) [AV.v (.int .i64 (i64 (n10 + 1)))])) :: bx0 y3.2) []) else none) else none)
         | _ => none)
        | none => none)))))))
 | none => none) := by kernel_rfl
end
section
open Go.RowKit
set_option maxRecDepth 4000
set_option maxHeartbeats 4000000
noncomputable def s9 (s : AS) (D E : List AV) (i0 q n : Nat) : AS := ((s.ap (.box 78 none)).ap (.tok (tD 78 0) true)).ap (.box 77 (some (D.set i0 (.list 29 (zo ((ZM q 29 E).take (n * 29)) 29 n) (some (tD 78 0))))))
theorem fz78 {B : Base} {s : AS} {a : Act} {w : World} {D E : List AV} {i0 q n : Nat} (b77 : s.bx 77 = some D) (hD : D[i0]? = some (.vs 78 q n 29)) (b78 : s.bx 78 = some E) (t1 : s.tk (tD 78 0) = none) (t2 : s.tk (vk 78) = some false) (hn : s.nin <= 78) (hE : n * 29 <= (ZM q 29 E).length) (hS : Sim B s a w) : Sim B (s9 s D E i0 q n) a w := by
 have h : fzc [(77, i0)] s some = some (s9 s D E i0 q n) := by
  unfold fzc
  simp only [b77, hD, b78, t1, t2]
  rw [if_pos ⟨hn, by omega, by omega⟩, if_pos hE]
  rfl
 obtain ⟨s', e, h'⟩ := zh3 _ s h hS
 cases e
 exact h'
def S12 : Shape := ⟨[[some 1]], [[some 1, none]], [], [], []⟩
def r12 (y : List (List AV) × List (List AV) × Int) : Ret := ⟨(AV.agg [(AV.list 1 y.1 none)]), [[(AV.list 1 y.2.1 none), (AV.v (.int .i64 y.2.2))]], none, [], [], [], none⟩
noncomputable abbrev zqT : Exit -> AS -> Option Ret := λ e s => match e with
 | .ret => znm TB Tryz.f12 S12 s
 | _ => none
section
variable (X Lr : List (List AV)) (p : Int) (N : Nat) (D E : List AV) (i0 : Nat) (p1 : Int) (q n j : Nat) (p2 : Int) (o : Nat) (E' : List AV) (y3 y4 : List (List AV) × Int)
theorem zq4 : zh0 b6 (s9 (f8 (s7 X Lr p N D E i0 p1 q n j p2 o) ((78, some E') :: (bx0 y4 ++ bx0 y3)) []) D E' i0 q n) zqT = (if N * 1 <= (D.set i0 (.list 29 (zo ((ZM q 29 E').take (n * 29)) 29 n) (some (tD 78 0)))).length then some (r12 (zo ((D.set i0 (.list 29 (zo ((ZM q 29 E').take (n * 29)) 29 n) (some (tD 78 0)))).take (N * 1)) 1 N, y4)) else none) := by kernel_rfl
theorem zyn : zh0 b6 (s9 (f8 (s7 X Lr p N D E i0 p1 q n j p2 o) ((78, some E') :: (bx0 y4 ++ bx0 y3)) [(3840, true)]) D E' i0 q n) zqT = (if N * 1 <= (D.set i0 (.list 29 (zo ((ZM q 29 E').take (n * 29)) 29 n) (some (tD 78 0)))).length then some (r12 (zo ((D.set i0 (.list 29 (zo ((ZM q 29 E').take (n * 29)) 29 n) (some (tD 78 0)))).take (N * 1)) 1 N, y4)) else none) := by kernel_rfl
theorem zyo : zh0 b6 (s9 (f8 (s7 X Lr p N D E i0 p1 q n j p2 o) ((78, some E') :: (bx0 y4 ++ bx0 y3)) [(4352, true)]) D E' i0 q n) zqT = (if N * 1 <= (D.set i0 (.list 29 (zo ((ZM q 29 E').take (n * 29)) 29 n) (some (tD 78 0)))).length then some (r12 (zo ((D.set i0 (.list 29 (zo ((ZM q 29 E').take (n * 29)) 29 n) (some (tD 78 0)))).take (N * 1)) 1 N, y4)) else none) := by kernel_rfl
theorem zq5 : zh0 b6 (s9 (f8 (s7 X Lr p N D E i0 p1 q n j p2 o) ((78, some E') :: bx0 y3) []) D E' i0 q n) zqT = (if N * 1 <= (D.set i0 (.list 29 (zo ((ZM q 29 E').take (n * 29)) 29 n) (some (tD 78 0)))).length then some (r12 (zo ((D.set i0 (.list 29 (zo ((ZM q 29 E').take (n * 29)) 29 n) (some (tD 78 0)))).take (N * 1)) 1 N, y3)) else none) := by kernel_rfl
theorem zyp (D2 : List AV) : zh0 b6 ((f8 (s7 X Lr p N D E i0 p1 q n j p2 o) ((77, some E') :: bx0 y3) []).ap (.box 77 (some D2))) zqT = (if N * 1 <= D2.length then some (r12 (zo (D2.take (N * 1)) 1 N, y3)) else none) := by kernel_rfl
end
end
section
open Go.RowKit
set_option maxRecDepth 4000
set_option maxHeartbeats 4000000
theorem zxw {B : Base} {s : AS} {a : Act} {w : World} {r : Ret} (h : zh0 b6 s zqT = some r) (hS : Sim B s a w) (Q : Exit -> Act -> World -> Prop) (hQ : ∀ e s a' w', (e = .normal \/ e = .ret) -> znm TB Tryz.f12 S12 s = some r -> Sim B s a' w' -> Q e a' w') : b6.wp Tryz.prog Q a w :=
 JI (zc Tryz.prog) (ZT _) zf zqF (lam 600 []) b6 0 (λ p hp hact => by have := List.mem_filter.2 ⟨hp, hact⟩; rw [show (zL b6 0).filter (zeM zqF) = [] from by kernel_rfl] at this; cases this) Ret s zqT r B a w Q h hS λ e1 s1 a' w' hk hS' => by
  cases e1 with
  | ret => exact hQ _ s1 a' w' (.inr rfl) hk hS'
  | _ => cases hk
theorem zBD {B : Base} {s s8 : AS} {a : Act} {w : World} (h : zh0 (sqL b5) s kfe = some (.normal, s8)) (hS : Sim B s a w) (Q : Exit -> Act -> World -> Prop) (hQ : ∀ a' w', Sim B s8 a' w' -> Q .normal a' w') : (sqL b5).wp Tryz.prog Q a w :=
 JI (zc Tryz.prog) (ZT _) zf zqF (lam 600 []) (sqL b5) 0 (λ p hp hact => by have := List.mem_filter.2 ⟨hp, hact⟩; rw [show (zL (sqL b5) 0).filter (zeM zqF) = [] from by kernel_rfl] at this; cases this) (Exit × AS) s kfe (.normal, s8) B a w Q h hS λ e1 s1 a' w' hk hS' => by
  have hk' := Option.some.inj hk
  injection hk' with h1 h2
  subst h1 h2
  exact hQ a' w' (zA2 hS')
theorem dat7 (v : RT7) : (zp v).map dat0 = zp v := rfl
theorem zdK {α : Type} (A : List α) : ∀ (vs B : List α) (k : Nat), splice (A ++ B) (A.length + k) vs = A ++ splice B k vs
 | [], B, k => rfl
 | v :: r, B, k => by
  show splice ((A ++ B).set (A.length + k) v) (A.length + k + 1) r = _
  rw [List.set_append_right _ _ (by omega), Nat.add_sub_cancel_left]
  exact zdK A r (B.set k v) (k + 1)
section
variable {C : List (List RT7)} {i0 j : Nat} (hi : i0 < C.length) (hj : j < (C[i0]).length)
abbrev rw7 (C : List (List RT7)) : List (List (List AV)) := C.map λ x => x.map zp
theorem ztV {q c : Nat} {vs : List AV} {b : RT7} (hb : splice (zp (C[i0][j])) c vs = zp b) (hc : c + vs.length <= 29) : ZM q 29 (splice (EE ((C[i0]).map zp) q) ((q + j) * 29 + c) vs) = fl zp ((C[i0]).set j b) := by
 rw [zem]
 have e1 : (List.replicate (q * 29) AV.any).length = q * 29 := by simp
 have e2 : (q + j) * 29 + c = (List.replicate (q * 29) AV.any).length + (j * 29 + c) := by rw [e1, Nat.add_mul]; omega
 unfold EE
 rw [e2, zdK, List.drop_left' e1]
 exact zfn zp 29 JG (C[i0]) j c hj vs b hb hc
theorem ziq (q n : Nat) (v : AV) : (DD (rw7 C) i0 q n).set i0 v = ((C.map λ x => AV.list 29 (x.map zp) none).set i0 v) := by
 unfold DD rw7
 rw [List.set_set, List.map_map]
 rfl
include hi in
theorem zmd (q n : Nat) (x : List RT7) (t : Option Nat) : zo (((DD (rw7 C) i0 q n).set i0 (.list 29 (x.map zp) t)).take (C.length * 1)) 1 C.length = zh (C.set i0 x) := by
 have _ := hi
 rw [ziq, Nat.mul_one, List.take_of_length_le (by simp)]
 have := zaO (C.set i0 x) ((C.map λ x => AV.list 29 (x.map zp) none).set i0 (.list 29 (x.map zp) t)) (by
  rw [List.map_set]
  show _ = zal (C.set i0 x)
  unfold zal
  rw [List.map_set]
  congr 1
  ·rw [List.map_map]; rfl
  ·cases t <;> rfl)
 rw [List.length_set] at this
 exact this
end
theorem zyy {C : List (List RT7)} {i0 j : Nat} (hC : C.length <= 500) (hm : ∀ x ∈ C, x.length <= 1000) (hi : i0 < C.length) (hj : j < (C[i0]).length) {Lr : List (List AV)} {p p1 p2 : Int}
  (h1 : zN 600 ((C.length : Int), Lr, p) = some ((i0 : Int), Lr, p1)) (h2 : zN 600 (((C[i0]).length : Int), Lr, p1) = some ((j : Int), Lr, p2)) {r : Ret} (ru : r.use = [] /\ r.sl = [])
  (hE : ∀ (B : Base) (q : Nat) (a : Act) (w : World) (Q : Exit -> Act -> World -> Prop), Sim B (s7 (zM (rw7 C)) Lr p C.length (DD (rw7 C) i0 q (C[i0]).length) (EE ((C[i0]).map zp) q) i0 p1 q (C[i0]).length j p2 ((q + j) * 29)) a w -> (∀ e s a' w', (e = .normal \/ e = .ret) -> znm TB Tryz.f12 S12 s = some r -> Sim B s a' w' -> Q e a' w') -> b5.wp Tryz.prog Q a w) :
  CallOk Tryz.prog 12 [AV.ptr 0 0, AV.agg [AV.list 1 (zh C) none]] [[AV.list 1 Lr none, AV.v (.int .i64 p)]] r := by
 have hrc : zh C = zM (rw7 C) := zmc C
 rw [hrc]
 refine zi3 (T := TB) (zc Tryz.prog) (fn := Tryz.f12) (S := S12) (c := zsR) Tryz.func12 rfl (by kernel_rfl) ru (show 2 <= 92 by omega) (λ t ht => by cases ht) λ B a w Q hS hQ => ?_
 have hXl : (rw7 C).length = C.length := by simp
 have hx : (rw7 C)[i0]'(by omega) = (C[i0]).map zp := by simp
 have hxl : ((rw7 C)[i0]'(by omega)).length = (C[i0]).length := by rw [hx]; simp
 show (Code.seq (sqL zsR) b1).wp Tryz.prog Q a w
 refine wp_seq (ztW _ (by kernel_rfl) (zBb (zM (rw7 C)) Lr p) hS _ λ a1 w1 hS1 => ?_)
 show (Code.seq (sqL b1) b2).wp Tryz.prog Q a1 w1
 refine wp_seq (zBc (XX := rw7 C) (by omega) (λ x hx => ?_) (λ x hx r hr => ?_) (i0 := i0) (by omega) (λ e => ?_) hS1 _ λ q a2 w2 hS2 => ?_)
 ·obtain ⟨y, hy, rfl⟩ := List.mem_map.1 hx
  rw [List.length_map]
  exact hm y hy
 ·obtain ⟨y, hy, rfl⟩ := List.mem_map.1 hx
  obtain ⟨v, hv, rfl⟩ := List.mem_map.1 hr
  exact JG v
 ·rw [e] at hxl
  simp at hxl
  omega
 replace hS2 : Sim B (st4 (zM (rw7 C)) Lr p C.length (DD (rw7 C) i0 q (C[i0]).length) (EE ((C[i0]).map zp) q)) a2 w2 := by
  simp only [hXl, hx, List.length_map] at hS2
  exact hS2
 show (Code.seq (sqL b2) b3).wp Tryz.prog Q a2 w2
 refine wp_seq (zBf (by omega) hS2 _ λ a3 w3 hS3 => ?_)
 show (Code.seq (sqL b3) b4).wp Tryz.prog Q a3 w3
 refine wp_seq (zBh hi h1 hS3 _ λ a4 w4 hS4 => ?_)
 rw [zyl] at hS4
 show (Code.seq (sqL b4) b5).wp Tryz.prog Q a4 w4
 have hD : (DD (rw7 C) i0 q (C[i0]).length)[i0]? = some (.vs 78 q (C[i0]).length 29) := by
  unfold DD
  rw [List.getElem?_set_self (by simp; exact hi)]
 refine wp_seq (zBi hD h2 hj hS4 _ λ a5 w5 hS5 => ?_)
 rw [zBk] at hS5
 exact hE B q a5 w5 Q hS5 hQ
theorem jL {C : List (List RT7)} {i0 j : Nat} (hC : C.length <= 500) (hm : ∀ x ∈ C, x.length <= 1000) (hi : i0 < C.length) (hj : j < (C[i0]).length) {Lr : List (List AV)} {p p1 p2 : Int}
  (h1 : zN 600 ((C.length : Int), Lr, p) = some ((i0 : Int), Lr, p1)) (h2 : zN 600 (((C[i0]).length : Int), Lr, p1) = some ((j : Int), Lr, p2)) {b : RT7} {c : Nat} {vs : List AV} (hb : splice (zp (C[i0][j])) c vs = zp b) (hc : c + vs.length <= 29)
  {R : List (Nat × Option (List AV))} {tk : List (Nat × Bool)} {yl : List (List AV) × Int}
  (h6 : ∀ q, (q + j) * 29 + c + vs.length <= (EE ((C[i0]).map zp) q).length -> zh0 (sqL b5) (s7 (zM (rw7 C)) Lr p C.length (DD (rw7 C) i0 q (C[i0]).length) (EE ((C[i0]).map zp) q) i0 p1 q (C[i0]).length j p2 ((q + j) * 29)) kfe = some (.normal, f8 (s7 (zM (rw7 C)) Lr p C.length (DD (rw7 C) i0 q (C[i0]).length) (EE ((C[i0]).map zp) q) i0 p1 q (C[i0]).length j p2 ((q + j) * 29)) ((78, some (splice (EE ((C[i0]).map zp) q) ((q + j) * 29 + c) vs)) :: R) tk))
  (hL : ∀ (s : AS) (D E' : List AV), s.bx 77 = some D -> (f8 s ((78, some E') :: R) tk).bx 77 = some D /\ (s.tk (tD 78 0) = none -> (f8 s ((78, some E') :: R) tk).tk (tD 78 0) = none) /\ (s.tk (vk 78) = some false -> (f8 s ((78, some E') :: R) tk).tk (vk 78) = some false))
  (hT : ∀ (X : List (List AV)) (N : Nat) (D E : List AV) (q n o : Nat) (E' : List AV), zh0 b6 (s9 (f8 (s7 X Lr p N D E i0 p1 q n j p2 o) ((78, some E') :: R) tk) D E' i0 q n) zqT = (if N * 1 <= (D.set i0 (.list 29 (zo ((ZM q 29 E').take (n * 29)) 29 n) (some (tD 78 0)))).length then some (r12 (zo ((D.set i0 (.list 29 (zo ((ZM q 29 E').take (n * 29)) 29 n) (some (tD 78 0)))).take (N * 1)) 1 N, yl)) else none)) :
  CallOk Tryz.prog 12 [AV.ptr 0 0, AV.agg [AV.list 1 (zh C) none]] [[AV.list 1 Lr none, AV.v (.int .i64 p)]] (r12 (zh (C.set i0 ((C[i0]).set j b)), yl)) := by
 refine zyy hC hm hi hj h1 h2 ⟨rfl, rfl⟩ λ B q a5 w5 Q hS5 hQ => ?_
 have hEl : ∀ q, (EE ((C[i0]).map zp) q).length = q * 29 + (C[i0]).length * 29 := λ q => by
  unfold EE
  rw [List.length_append, List.length_replicate]
  have := JV zp 29 JG (C[i0])
  unfold fl at this
  rw [this]
 have hlt : (j + 1) * 29 <= (C[i0]).length * 29 := Nat.mul_le_mul_right _ hj
 have hD : (DD (rw7 C) i0 q (C[i0]).length)[i0]? = some (.vs 78 q (C[i0]).length 29) := by
  unfold DD
  rw [List.getElem?_set_self (by simp; exact hi)]
 show (Code.seq (sqL b5) b6).wp Tryz.prog Q a5 w5
 refine wp_seq (zBD (h6 q (by rw [hEl, Nat.add_mul]; omega)) hS5 _ λ a6 w6 hS6 => ?_)
 show b6.wp Tryz.prog Q a6 w6
 obtain ⟨l1, l2, l3⟩ := hL (s7 (zM (rw7 C)) Lr p C.length (DD (rw7 C) i0 q (C[i0]).length) (EE ((C[i0]).map zp) q) i0 p1 q (C[i0]).length j p2 ((q + j) * 29)) (DD (rw7 C) i0 q (C[i0]).length) (splice (EE ((C[i0]).map zp) q) ((q + j) * 29 + c) vs) rfl
 have hrow := ztV hi hj (q := q) hb hc
 have hS7 := fz78 (i0 := i0) (q := q) (n := (C[i0]).length) l1 hD rfl (l2 rfl) (l3 rfl) (show 1 <= 78 by omega) (by rw [hrow, JV zp 29 JG, List.length_set]; exact Nat.le_refl _) hS6
 have ht := hT (zM (rw7 C)) C.length (DD (rw7 C) i0 q (C[i0]).length) (EE ((C[i0]).map zp) q) q (C[i0]).length ((q + j) * 29) (splice (EE ((C[i0]).map zp) q) ((q + j) * 29 + c) vs)
 have hch : zo ((ZM q 29 (splice (EE ((C[i0]).map zp) q) ((q + j) * 29 + c) vs)).take ((C[i0]).length * 29)) 29 (C[i0]).length = ((C[i0]).set j b).map zp := by
  rw [hrow]
  exact zao zp 29 JG dat7 ((C[i0]).set j b) _ (by simp)
 rw [hch, zmd hi] at ht
 rw [if_pos (by rw [List.length_set]; unfold DD; simp)] at ht
 exact zxw ht hS7 Q hQ
theorem zod {C : List (List RT7)} {i0 j : Nat} (hC : C.length <= 500) (hm : ∀ x ∈ C, x.length <= 1000) (hi : i0 < C.length) (hj : j < (C[i0]).length) {Lr : List (List AV)} {p p1 p2 : Int}
  (h1 : zN 600 ((C.length : Int), Lr, p) = some ((i0 : Int), Lr, p1)) (h2 : zN 600 (((C[i0]).length : Int), Lr, p1) = some ((j : Int), Lr, p2)) {y3 : Int × List (List AV) × Int} (h3 : zN 600 (7, Lr, p2) = some y3) (hy : y3.1 = 5) :
  CallOk Tryz.prog 12 [AV.ptr 0 0, AV.agg [AV.list 1 (zh C) none]] [[AV.list 1 Lr none, AV.v (.int .i64 p)]] (r12 (zh (C.set i0 []), y3.2)) := by
 refine zyy hC hm hi hj h1 h2 ⟨rfl, rfl⟩ λ B q a5 w5 Q hS5 hQ => ?_
 have hDl : (DD (rw7 C) i0 q (C[i0]).length).length = C.length := by unfold DD; simp
 have e6 := zx8 (zM (rw7 C)) Lr p C.length (DD (rw7 C) i0 q (C[i0]).length) (EE ((C[i0]).map zp) q) i0 p1 q (C[i0]).length j p2 ((q + j) * 29)
 have z0 : ((5 : Int) == 0) = false := by decide
 have z1 : ((5 : Int) == 1) = false := by decide
 have z2 : ((5 : Int) == 2) = false := by decide
 have z3 : ((5 : Int) == 3) = false := by decide
 have z4 : ((5 : Int) == 4) = false := by decide
 have z5 : ((5 : Int) == 5) = true := by decide
 have b1 : (i0 + 0) + 1 <= (DD (rw7 C) i0 q (C[i0]).length).length := by rw [hDl]; exact hi
 simp only [h3, hy, z0, z1, z2, z3, z4, z5, b1, if_true, Nat.add_zero] at e6
 show (Code.seq (sqL b5) b6).wp Tryz.prog Q a5 w5
 refine wp_seq (zBD e6 hS5 _ λ a6 w6 hS6 => ?_)
 show b6.wp Tryz.prog Q a6 w6
 obtain ⟨D2, hD2⟩ : ∃ D2, D2 = (DD (rw7 C) i0 q (C[i0]).length).set i0 (.list 29 (([] : List RT7).map zp) none) := ⟨_, rfl⟩
 have hD3 := hD2
 rw [ziq] at hD2
 have hS7 : Sim B ((f8 (s7 (zM (rw7 C)) Lr p C.length (DD (rw7 C) i0 q (C[i0]).length) (EE ((C[i0]).map zp) q) i0 p1 q (C[i0]).length j p2 ((q + j) * 29)) ((77, some (splice (DD (rw7 C) i0 q (C[i0]).length) i0 [AV.v (.slice none 0 0)])) :: bx0 y3.2) []).ap (.box 77 (some D2))) a6 w6 := by
  obtain ⟨M, ρ, σ, h⟩ := hS6
  refine ⟨M, ρ, σ, h.rebox (b := 77) (cs0 := splice (DD (rw7 C) i0 q (C[i0]).length) i0 [AV.v (.slice none 0 0)]) rfl D2 ?_⟩
  rcases h.box 77 (splice (DD (rw7 C) i0 q (C[i0]).length) i0 [AV.v (.slice none 0 0)]) rfl with ⟨e, -⟩ | ⟨g, g1, g2, -, -⟩
  ·have := congrArg List.length e
   rw [zA, hDl] at this
   have : C.length = 0 := this
   omega
  ·obtain ⟨ccs, t, c1, c2, c3, c4⟩ := g2.cells rfl
   rw [zA, hDl] at c2
   refine .inr ⟨g, g1, .inl ⟨ccs, t, c1, by rw [hD2]; simpa using c2, λ i hi _ => c1.one i hi, λ k hk hk' => ?_⟩⟩
   have hkC : k < C.length := by rw [hD2] at hk'; simpa using hk'
   have hr := c4 k hk (by rw [zA, hDl]; exact hkC)
   have es : splice (DD (rw7 C) i0 q (C[i0]).length) i0 [AV.v (.slice none 0 0)] = (C.map λ x => AV.list 29 (x.map zp) none).set i0 (AV.v (.slice none 0 0)) := by
    show (DD (rw7 C) i0 q (C[i0]).length).set i0 _ = _
    unfold DD rw7
    rw [List.set_set, List.map_map]
    rfl
   simp only [es] at hr
   by_cases hk0 : k = i0
   ·subst hk0
    have e1 : D2[k] = .list 29 [] none := by simp only [hD2]; rw [List.getElem_set_self]; rfl
    rw [List.getElem_set_self] at hr
    rw [e1, hr.v_inv]
    exact .nil
   ·have e1 : D2[k] = AV.list 29 (C[k].map zp) none := by
     simp only [hD2]
     rw [List.getElem_set_ne (by omega), List.getElem_map]
    rw [List.getElem_set_ne (by omega), List.getElem_map] at hr
    rw [e1]
    exact hr
 have ht := zyp (zM (rw7 C)) Lr p C.length (DD (rw7 C) i0 q (C[i0]).length) (EE ((C[i0]).map zp) q) i0 p1 q (C[i0]).length j p2 ((q + j) * 29) (splice (DD (rw7 C) i0 q (C[i0]).length) i0 [AV.v (.slice none 0 0)]) y3.2 D2
 have hch : zo (D2.take (C.length * 1)) 1 C.length = zh (C.set i0 []) := by
  rw [hD3]
  exact zmd hi q _ [] none
 rw [hch, if_pos (by rw [hD2]; simp)] at ht
 exact zxw ht hS7 Q hQ
theorem zl7 (Lr : List (List AV)) (p : Int) : CallOk Tryz.prog 12 [AV.ptr 0 0, AV.agg [AV.list 1 (zh []) none]] [[AV.list 1 Lr none, AV.v (.int .i64 p)]] (r12 (zh [], Lr, p)) :=
 zhF (T := TB) (Γ := gam (P := Tryz.prog) [zzt 600]) (zc Tryz.prog) (ZT _) zf Tryz.func12 rfl (anL []) (lam 600 []) (λ c hc p hp hact => by
  have ec : c = zsR := Option.some.inj (hc.symm.trans (show Tryz.f12.body = some zsR by kernel_rfl))
  subst ec
  have := List.mem_filter.2 ⟨hp, hact⟩
  rw [show (zL zsR 0).filter (zeM (anL [])) = [] from by kernel_rfl] at this
  cases this) (S := S12) ⟨rfl, rfl⟩ (by kernel_rfl)
end
section
open Go.RowKit
set_option maxHeartbeats 1000000
structure WfV (v : RT7) : Prop where
 pk : Jf (evV v)
 sz : (byV v).size <= 9223372036854775807
structure Wf (C : List (List RT7)) : Prop where
 le : C.length <= 500
 xs : ∀ x ∈ C, x.length <= 100
 vs : ∀ x ∈ C, ∀ v ∈ x, WfV v
theorem Wf.set {C : List (List RT7)} (h : Wf C) {i : Nat} {x : List RT7} (h1 : x.length <= 100) (h2 : ∀ v ∈ x, WfV v) : Wf (C.set i x) := by
 refine ⟨by rw [List.length_set]; exact h.le, λ y hy => ?_, λ y hy => ?_⟩
 ·rcases List.mem_or_eq_of_mem_set hy with hy | rfl
  ·exact h.xs y hy
  ·exact h1
 ·rcases List.mem_or_eq_of_mem_set hy with hy | rfl
  ·exact h.vs y hy
  ·exact h2
theorem Wf.setV {C : List (List RT7)} (h : Wf C) {i j : Nat} (hi : i < C.length) {b : RT7} (hb : WfV b) : Wf (C.set i ((C[i]).set j b)) :=
 h.set (by rw [List.length_set]; exact h.xs _ (List.getElem_mem _)) λ v hv => by
  rcases List.mem_or_eq_of_mem_set hv with hv | rfl
  ·exact h.vs _ (List.getElem_mem _) v hv
  ·exact hb
theorem zuB (x : List RT7) (q j c : Nat) (hj : j < x.length) (hc : c < 29) : (EE (x.map zp) q)[(q + j) * 29 + c]? = (zp x[j])[c]? := by
 have e1 : (List.replicate (q * 29) AV.any).length = q * 29 := by simp
 have e2 : (q + j) * 29 + c - (List.replicate (q * 29) AV.any).length = j * 29 + c := by rw [e1, Nat.add_mul]; omega
 unfold EE
 rw [List.getElem?_append_right (by rw [e1, Nat.add_mul]; omega), e2]
 exact zmn zp 29 JG x j c hj hc
theorem zBm {xs : List Int} {p : Int} (D : Sc xs p) : ∃ b p', Ji 600 (opT, zk xs, p) = some (b, zk xs, p') /\ b.size <= 100 /\ Sc xs p' := by
 obtain ⟨v, p1, h1, m1, D1⟩ := jV 600 (n := 4) (by omega) D
 replace h1 : zN 600 ((opT.length : Int), zk xs, p) = some (v, zk xs, p1) := h1
 have h0 : 0 <= v := m1.1
 rcases (show v = 0 \/ v = 1 \/ v = 2 \/ v = 3 by omega) with rfl | rfl | rfl | rfl
 ·refine ⟨⟨#[]⟩, p1, ?_, by decide, D1⟩
  simp only [Ji, FSpec.d, zdW, h1]
  rfl
 ·refine ⟨⟨#[97, 110, 110]⟩, p1, ?_, by decide, D1⟩
  simp only [Ji, FSpec.d, zdW, h1]
  rfl
 ·refine ⟨⟨#[65, 110, 110]⟩, p1, ?_, by decide, D1⟩
  simp only [Ji, FSpec.d, zdW, h1]
  rfl
 ·refine ⟨⟨#[97, 98, 99, 100, 101, 102, 103, 104, 105, 106, 107, 108, 109, 110, 111, 112, 113]⟩, p1, ?_, by decide, D1⟩
  simp only [Ji, FSpec.d, zdW, h1]
  rfl
@[reducible] def zyH : RT0 := (AB, st 0, LC, CH, 1000, 0, 0, 0, 0, [zj (AB, st 0, LC, CH, 1000, 0, 0, 0, 0, ())], 0, 0, 0, 0, 0, 0, 0, 0, 0, 0, 0, 0, 0, 0, 0, ())
theorem zxU : znx 600 () = some zyH := by kernel_rfl
theorem one_g : EvG zyH := ⟨by kernel_rfl, by kernel_rfl, ⟨[(AB, st 0, LC, CH, 1000, 0, 0, 0, 0, ())], by simp, rfl⟩⟩
def zyX (C : List (List RT7)) (xs : List Int) (p : Int) : Prop := ∃ (C' : List (List RT7)) (p' : Int), Wf C' /\ Sc xs p' /\ CallOk Tryz.prog 12 [AV.ptr 0 0, AV.agg [AV.list 1 (zh C) none]] [[AV.list 1 (zk xs) none, AV.v (.int .i64 p)]] (r12 (zh C', zk xs, p'))
theorem zsT {C : List (List RT7)} (hW : Wf C) (hne : ∀ x ∈ C, x ≠ []) {xs : List Int} {p : Int} (D : Sc xs p) : zyX C xs p := by
 by_cases hC : C = []
 ·subst hC
  exact ⟨[], p, hW, D, zl7 (zk xs) p⟩
 have hCl := List.length_pos_iff.2 hC
 have hle := hW.le
 have hm : ∀ x ∈ C, x.length <= 1000 := λ x hx => Nat.le_trans (hW.xs x hx) (by omega)
 obtain ⟨v, p1, h1, m1, D1⟩ := jV 600 (n := (C.length : Int)) (by omega) D
 obtain ⟨i0, rfl⟩ : ∃ i : Nat, v = (i : Int) := ⟨v.toNat, by omega⟩
 have hi : i0 < C.length := by omega
 have hx1 := List.length_pos_iff.2 (hne C[i0] (List.getElem_mem _))
 have hx2 := hW.xs C[i0] (List.getElem_mem _)
 obtain ⟨v, p2, h2, m2, D2⟩ := jV 600 (n := ((C[i0]).length : Int)) (by omega) D1
 obtain ⟨j, rfl⟩ : ∃ j : Nat, v = (j : Int) := ⟨v.toNat, by omega⟩
 have hj : j < (C[i0]).length := by omega
 obtain ⟨z, p3, h3, m3, D3⟩ := jV 600 (n := 7) (by omega) D2
 have hv : WfV (C[i0][j]) := hW.vs _ (List.getElem_mem _) _ (List.getElem_mem _)
 have ev := λ q => zx8 (zM (rw7 C)) (zk xs) p C.length (DD (rw7 C) i0 q (C[i0]).length) (EE ((C[i0]).map zp) q) i0 p1 q (C[i0]).length j p2 ((q + j) * 29)
 obtain ⟨V, hV⟩ : ∃ V, C[i0][j] = V := ⟨_, rfl⟩
 rw [hV] at hv
 rcases (show z = 0 \/ z = 1 \/ z = 2 \/ z = 3 \/ z = 4 \/ z = 5 \/ z = 6 by omega) with rfl | rfl | rfl | rfl | rfl | rfl | rfl
 ·obtain ⟨u, p4, h4, m4, D4⟩ := jV 600 (n := 9) (by omega) D3
  refine ⟨_, p4, hW.setV hi (b := (i64 (u - 1), V.2)) ⟨hv.pk, hv.sz⟩, D4, jL hW.le hm hi hj h1 h2 (c := 0) (vs := [AV.v (.int .i64 (i64 (u - 1)))]) (by rw [hV]; kernel_rfl) (by simp) (R := bx0 (zk xs, p4) ++ bx0 (zk xs, p3)) (tk := []) (λ q hq => ?_) (λ s D E h => ⟨h, id, id⟩) (λ X N D E q n o E' => zq4 X (zk xs) p N D E i0 p1 q n j p2 o E' (zk xs, p3) (zk xs, p4))⟩
  have e6 := ev q
  rw [h3] at e6
  have z0 : ((0 : Int) == 0) = true := by decide
  simp only [z0, h4] at e6
  exact e6.trans (if_pos hq)
 ·obtain ⟨u, p4, h4, m4, D4⟩ := zeC 600 [-1, 0, 18014398509481984, 18014398509481985] (by simp) D3
  replace h4 : zcW 600 (opA, zk xs, p3) = some (u, zk xs, p4) := h4
  refine ⟨_, p4, hW.setV hi (b := (V.1, u, V.2.2)) ⟨hv.pk, hv.sz⟩, D4, jL hW.le hm hi hj h1 h2 (c := 1) (vs := [AV.v (.int .i64 u)]) (by rw [hV]; kernel_rfl) (by simp) (R := bx0 (zk xs, p4) ++ bx0 (zk xs, p3)) (tk := [(3840, true)]) (λ q hq => ?_) (λ s D E h => ⟨h, id, id⟩) (λ X N D E q n o E' => zyn X (zk xs) p N D E i0 p1 q n j p2 o E' (zk xs, p3) (zk xs, p4))⟩
  have e6 := ev q
  rw [h3] at e6
  have z0 : ((1 : Int) == 0) = false := by decide
  have z1 : ((1 : Int) == 1) = true := by decide
  simp only [z0, z1, h4] at e6
  exact e6.trans (if_pos hq)
 ·obtain ⟨u, p4, h4, m4, D4⟩ := zBm D3
  refine ⟨_, p4, hW.setV hi (b := (V.1, V.2.1, u, V.2.2.2)) ⟨hv.pk, by simp only [byV]; omega⟩, D4, jL hW.le hm hi hj h1 h2 (c := 2) (vs := [AV.v (.string u)]) (by rw [hV]; kernel_rfl) (by simp) (R := bx0 (zk xs, p4) ++ bx0 (zk xs, p3)) (tk := [(4352, true)]) (λ q hq => ?_) (λ s D E h => ⟨h, id, id⟩) (λ X N D E q n o E' => zyo X (zk xs) p N D E i0 p1 q n j p2 o E' (zk xs, p3) (zk xs, p4))⟩
  have e6 := ev q
  rw [h3] at e6
  have z0 : ((2 : Int) == 0) = false := by decide
  have z1 : ((2 : Int) == 1) = false := by decide
  have z2 : ((2 : Int) == 2) = true := by decide
  simp only [z0, z1, z2, h4] at e6
  exact e6.trans (if_pos hq)
 ·obtain ⟨u, p4, h4, m4, D4⟩ := jV 600 (n := 5) (by omega) D3
  refine ⟨_, p4, hW.setV hi (b := (V.1, V.2.1, V.2.2.1, i64 (u - 1), V.2.2.2.2)) ⟨hv.pk, hv.sz⟩, D4, jL hW.le hm hi hj h1 h2 (c := 3) (vs := [AV.v (.int .i64 (i64 (u - 1)))]) (by rw [hV]; kernel_rfl) (by simp) (R := bx0 (zk xs, p4) ++ bx0 (zk xs, p3)) (tk := []) (λ q hq => ?_) (λ s D E h => ⟨h, id, id⟩) (λ X N D E q n o E' => zq4 X (zk xs) p N D E i0 p1 q n j p2 o E' (zk xs, p3) (zk xs, p4))⟩
  have e6 := ev q
  rw [h3] at e6
  have z0 : ((3 : Int) == 0) = false := by decide
  have z1 : ((3 : Int) == 1) = false := by decide
  have z2 : ((3 : Int) == 2) = false := by decide
  have z3 : ((3 : Int) == 3) = true := by decide
  simp only [z0, z1, z2, z3, h4] at e6
  exact e6.trans (if_pos hq)
 ·refine ⟨_, p3, hW.setV hi (b := (V.1, V.2.1, V.2.2.1, V.2.2.2.1, zyH)) ⟨one_g.pk, hv.sz⟩, D3, jL hW.le hm hi hj h1 h2 (c := 4) (vs := zu zyH) (by rw [hV]; kernel_rfl) (by rw [zbv]; omega) (R := bx0 (zk xs, p3)) (tk := []) (λ q hq => ?_) (λ s D E h => ⟨h, id, id⟩) (λ X N D E q n o E' => zq5 X (zk xs) p N D E i0 p1 q n j p2 o E' (zk xs, p3))⟩
  have e6 := ev q
  rw [h3] at e6
  have z0 : ((4 : Int) == 0) = false := by decide
  have z1 : ((4 : Int) == 1) = false := by decide
  have z2 : ((4 : Int) == 2) = false := by decide
  have z3 : ((4 : Int) == 3) = false := by decide
  have z4 : ((4 : Int) == 4) = true := by decide
  simp only [z0, z1, z2, z3, z4, zxU] at e6
  exact e6.trans (if_pos hq)
 ·exact ⟨_, p3, hW.set (by simp) (λ v hv => by cases hv), D3, zod hW.le hm hi hj h1 h2 h3 rfl⟩
 ·have hg : ∀ q, (EE ((C[i0]).map zp) q)[(((q + j) * 29 + 4) + 0) + 4]? = some (AV.v (.int .i64 V.2.2.2.2.2.2.2.2.1)) := λ q => by
   have := zuB C[i0] q j 8 hj (by omega)
   rw [hV] at this
   exact this
  refine ⟨_, p3, hW.setV hi (b := (V.1, V.2.1, V.2.2.1, V.2.2.2.1, V.2.2.2.2.1, V.2.2.2.2.2.1, V.2.2.2.2.2.2.1, V.2.2.2.2.2.2.2.1, i64 (V.2.2.2.2.2.2.2.2.1 + 1), V.2.2.2.2.2.2.2.2.2)) ⟨hv.pk, hv.sz⟩, D3, jL hW.le hm hi hj h1 h2 (c := 8) (vs := [AV.v (.int .i64 (i64 (V.2.2.2.2.2.2.2.2.1 + 1)))]) (by rw [hV]; kernel_rfl) (by simp) (R := bx0 (zk xs, p3)) (tk := []) (λ q hq => ?_) (λ s D E h => ⟨h, id, id⟩) (λ X N D E q n o E' => zq5 X (zk xs) p N D E i0 p1 q n j p2 o E' (zk xs, p3))⟩
  have e6 := ev q
  rw [h3] at e6
  have z0 : ((6 : Int) == 0) = false := by decide
  have z1 : ((6 : Int) == 1) = false := by decide
  have z2 : ((6 : Int) == 2) = false := by decide
  have z3 : ((6 : Int) == 3) = false := by decide
  have z4 : ((6 : Int) == 4) = false := by decide
  have z5 : ((6 : Int) == 5) = false := by decide
  simp only [z0, z1, z2, z3, z4, z5, hg] at e6
  exact e6.trans ((if_pos trivial).trans (if_pos hq))
theorem zm2 {a b : List Int} (h : zk a = zk b) : a = b := by
 induction a generalizing b with
 | nil => cases b with | nil => rfl | cons y b => cases h
 | cons x a ih =>
  cases b with
  | nil => cases h
  | cons y b =>
   have h' : [I x] :: zk a = [I y] :: zk b := h
   injection h' with h1 h2
   have h3 : I x = I y := by injection h1
   have h4 : x = y := by
    unfold I at h3
    injection h3 with h3
    injection h3
   rw [h4, ih h2]
end
section
open Go.RowKit
def BX (x y : (List (List AV)) × (List (List AV)) × Int) : Prop := ∃ (xs : List Int) (C' : List (List RT7)) (p' : Int), x.2.1 = zk xs /\ y = (zh C', zk xs, p') /\ Wf C' /\ Sc xs p' /\ CallOk Tryz.prog 12 [AV.ptr 0 0, AV.agg [AV.list 1 x.1 none]] [[AV.list 1 x.2.1 none, AV.v (.int .i64 x.2.2)]] (r12 y)
open Classical in
noncomputable def ziH (N : Nat) : FSpec where
 X := (List (List AV)) × (List (List AV)) × Int
 Y := (List (List AV)) × (List (List AV)) × Int
 ash := [[none], [some 1]]
 bsh := [[some 1, none]]
 S := ⟨[[some 1]], [[some 1, none]], [], [], []⟩
 bm := false
 pat := λ a b => zeB a λ v1 c2 => zx0 0 0 v1 <| zeB c2 λ v3 c4 => ztC v3 λ c5 => zeB c5 λ c6 c7 => zuq 1 c6 λ a0 => zqW c7 <| zqW c4 <| zeB b λ v8 c9 => zeB v8 λ c10 c11 => zuq 1 c10 λ a1 => zeB c11 λ c12 c13 => zxY .i64 c12 λ a2 => zqW c13 <| zqW c9 <| some (a0, a1, a2)
 args := λ x => [(AV.ptr 0 0), (AV.agg [(AV.list 1 x.1 none)])]
 bs := λ x => [[(AV.list 1 x.2.1 none), (AV.v (.int .i64 x.2.2))]]
 ret := λ y => ⟨(AV.agg [(AV.list 1 y.1 none)]), [[(AV.list 1 y.2.1 none), (AV.v (.int .i64 y.2.2))]], none, [], [], [], none⟩
 t := λ x α k => if h : ∃ y, BX x y then k h.choose else none
noncomputable abbrev zu5 (N : Nat) (x : (List (List AV)) × (List (List AV)) × Int) : Option ((List (List AV)) × (List (List AV)) × Int) := (ziH N).d x
theorem zrr (N : Nat) (a : List AV) (b : List (List AV)) (x : (ziH N).X) (h : (ziH N).pat a b = some x) : a = (ziH N).args x /\ b = (ziH N).bs x := by
 obtain ⟨v1, c2, rfl, g0⟩ := JM (show zeB _ _ = some x from h)
 obtain ⟨rfl, g1⟩ := zmK g0; clear g0
 obtain ⟨v3, c4, rfl, g2⟩ := JM g1; clear g1
 obtain ⟨c5, rfl, g3⟩ := zoY g2; clear g2
 obtain ⟨c6, c7, rfl, g4⟩ := JM g3; clear g3
 obtain ⟨a0, rfl, g5⟩ := zgU g4; clear g4
 obtain ⟨rfl, g6⟩ := zaV g5; clear g5
 obtain ⟨rfl, g7⟩ := zaV g6; clear g6
 obtain ⟨v8, c9, rfl, g8⟩ := JM g7; clear g7
 obtain ⟨c10, c11, rfl, g9⟩ := JM g8; clear g8
 obtain ⟨a1, rfl, g10⟩ := zgU g9; clear g9
 obtain ⟨c12, c13, rfl, g11⟩ := JM g10; clear g10
 obtain ⟨a2, rfl, g12⟩ := zmJ g11; clear g11
 obtain ⟨rfl, g13⟩ := zaV g12; clear g12
 obtain ⟨rfl, g14⟩ := zaV g13; clear g13
 clear h
 cases g14
 exact ⟨rfl, rfl⟩
noncomputable def zy0 (N : Nat) : Ent Tryz.prog where
 f := 12
 F := ziH N
 ok := λ (x : (List (List AV)) × (List (List AV)) × Int) y h => by
  classical
  have h : (if h : ∃ y, BX x y then some h.choose else none) = some y := h
  split at h
  ·rename_i hx
   cases h
   obtain ⟨xs, C', p', -, -, -, -, e⟩ := hx.choose_spec
   exact e
  ·cases h
 hp := zrr N
 hsl := λ y => rfl
theorem zsU {C : List (List RT7)} (hW : Wf C) (hne : ∀ x ∈ C, x ≠ []) {xs : List Int} {p : Int} (D : Sc xs p) : ∃ (C' : List (List RT7)) (p' : Int), zu5 600 (zh C, zk xs, p) = some (zh C', zk xs, p') /\ Wf C' /\ Sc xs p' := by
 classical
 have hx : ∃ y, BX (zh C, zk xs, p) y := by
  obtain ⟨C', p', h1, h2, h3⟩ := zsT hW hne D
  exact ⟨_, xs, C', p', rfl, rfl, h1, h2, h3⟩
 obtain ⟨ys, C', p', e1, e2, e3, e4, -⟩ := hx.choose_spec
 have e5 := zm2 e1
 subst e5
 refine ⟨C', p', ?_, e3, e4⟩
 show (if h : ∃ y, BX (zh C, zk xs, p) y then some h.choose else none) = _
 rw [dif_pos hx, e2]
end
section
noncomputable section
open Go.RowKit
set_option maxRecDepth 4000
set_option maxHeartbeats 4000000
def jb : Nat -> Keep × Keep := anL [(10, ⟨[1, 2, 3, 5, 11, 15, 17, 74, 75], [], [11, 59], [(73, 1)], [], [], [], [], false, none, []⟩, qK [14] [] []), (19, ⟨[1, 2, 3, 5, 11, 15, 17, 19, 74, 75, 83, 84], [], [11, 19, 59], [(73, 1), (82, 1)], [], [], [], [], false, none, []⟩, ⟨[1, 2, 3, 5, 11, 14, 15, 17, 74, 75], [], [11, 59], [(73, 1)], [], [], [], [], false, none, []⟩), (28, ⟨[1, 2, 3, 5, 11, 15, 17, 19, 21, 74, 75, 83, 84, 93, 94], [], [11, 19, 59], [(73, 1), (82, 1), (92, 1)], [], [], [], [], false, none, []⟩, ⟨[1, 2, 3, 5, 11, 14, 15, 17, 19, 74, 75, 83, 84], [], [11, 19, 59], [(73, 1), (82, 1)], [], [], [], [], false, none, []⟩), (37, ⟨[1, 2, 3, 5, 11, 15, 17, 19, 21, 23, 74, 75, 83, 84, 93, 94, 108, 109], [], [11, 19, 59], [(73, 1), (82, 1), (92, 1), (107, 1)], [], [], [], [], false, none, []⟩, ⟨[1, 2, 3, 5, 11, 14, 15, 17, 19, 21, 74, 75, 83, 84, 93, 94], [], [11, 19, 59], [(73, 1), (82, 1), (92, 1)], [], [], [], [], false, none, []⟩), (48, ⟨[1, 2, 3, 5, 11, 15, 17, 19, 21, 23, 25, 26, 27, 74, 75, 83, 84, 93, 94, 108, 109, 122], [], [11, 19, 27, 59], [(73, 1), (82, 1), (92, 1), (107, 1)], [], [], [], [], true, none, []⟩, ⟨[1, 2, 3, 5, 11, 15, 17, 19, 21, 23, 25, 26, 27, 74, 75, 83, 84, 93, 94, 108, 109], [], [11, 19, 27, 59], [(73, 1), (82, 1), (92, 1), (107, 1)], [], [], [], [], false, none, []⟩)]
def zuj (N : Nat) : List (Ent qP) := [F6_e N, F8_e N, F7_e N, F9_e N, zdV N, zyY N, zy0 N, zrs N, znv N, zy3 N, zvc N, zvf N, zy6 N, zvk N, zy9 N, zvp N, zzc N, zvu N, zzf N]
def zai (N : Nat) : LSpec where
 X := qL × qL × qL × qL × Int × Int × ByteArray × Int × Int × Int × ByteArray × Int × Int × Int × Int × Int × Int × Int × Int × Int × Int × Bool × RT0 × qL × RT0 × qL × Int
 Y := (qL × qL × qL × qL × Int × Int × ByteArray × Int × Int × Int × ByteArray × Int × Int × Int × Int × Int × Int × Int × Int × Int × Int × RT0 × qL × RT0 × qL × Int)
 p := λ s => rdS 239 0 [(73, .lst 1), (82, .lst 1), (92, .lst 1), (107, .lst 1), (1, .int .i64), (2, .int .i64), (3, .str), (5, .int .i64), (11, .ptr 11 0), (15, .ptr 59 0), (17, .int .i64), (19, .ptr 19 0), (21, .int .i64), (23, .str), (25, .int .i64), (26, .int .i64), (27, .ptr 27 0), (74, .int .i64), (75, .int .i64), (83, .int .i64), (84, .int .i64), (93, .int .i64), (94, .int .i64), (108, .int .i64), (109, .int .i64), (122, .bool)] [(11, .row RK0), (19, .cells [.lst 1]), (27, .row RK0), (59, .cells [.lst 1, .int .i64])] s λ ⟨a0, a1, a2, a3, a4, a5, a6, a7, _, _, a8, _, a9, a10, a11, a12, _, a13, a14, a15, a16, a17, a18, a19, a20, a21, _⟩ ⟨a22, ⟨a23, _⟩, a24, ⟨a25, a26, _⟩, _⟩ => (a0, a1, a2, a3, a4, a5, a6, a7, a8, a9, a10, a11, a12, a13, a14, a15, a16, a17, a18, a19, a20, a21, a22, a23, a24, a25, a26)
 st := λ u48 => mkS 239 [(73, (AV.list 1 u48.1 none)), (82, (AV.list 1 u48.2.1 none)), (92, (AV.list 1 u48.2.2.1 none)), (107, (AV.list 1 u48.2.2.2.1 none)), (1, (qI u48.2.2.2.2.1)), (2, (qI u48.2.2.2.2.2.1)), (3, (AV.v (.string u48.2.2.2.2.2.2.1))), (5, (qI u48.2.2.2.2.2.2.2.1)), (11, (AV.ptr 11 0)), (15, (AV.ptr 59 0)), (17, (qI u48.2.2.2.2.2.2.2.2.1)), (19, (AV.ptr 19 0)), (21, (qI u48.2.2.2.2.2.2.2.2.2.1)), (23, (AV.v (.string u48.2.2.2.2.2.2.2.2.2.2.1))), (25, (qI u48.2.2.2.2.2.2.2.2.2.2.2.1)), (26, (qI u48.2.2.2.2.2.2.2.2.2.2.2.2.1)), (27, (AV.ptr 27 0)), (74, (qI u48.2.2.2.2.2.2.2.2.2.2.2.2.2.1)), (75, (qI u48.2.2.2.2.2.2.2.2.2.2.2.2.2.2.1)), (83, (qI u48.2.2.2.2.2.2.2.2.2.2.2.2.2.2.2.1)), (84, (qI u48.2.2.2.2.2.2.2.2.2.2.2.2.2.2.2.2.1)), (93, (qI u48.2.2.2.2.2.2.2.2.2.2.2.2.2.2.2.2.2.1)), (94, (qI u48.2.2.2.2.2.2.2.2.2.2.2.2.2.2.2.2.2.2.1)), (108, (qI u48.2.2.2.2.2.2.2.2.2.2.2.2.2.2.2.2.2.2.2.1)), (109, (qI u48.2.2.2.2.2.2.2.2.2.2.2.2.2.2.2.2.2.2.2.2.1)), (122, (AV.v (.bool u48.2.2.2.2.2.2.2.2.2.2.2.2.2.2.2.2.2.2.2.2.2.1)))] [(11, (zu u48.2.2.2.2.2.2.2.2.2.2.2.2.2.2.2.2.2.2.2.2.2.2.1)), (19, [(AV.list 1 u48.2.2.2.2.2.2.2.2.2.2.2.2.2.2.2.2.2.2.2.2.2.2.2.1 none)]), (27, (zu u48.2.2.2.2.2.2.2.2.2.2.2.2.2.2.2.2.2.2.2.2.2.2.2.2.1)), (59, [(AV.list 1 u48.2.2.2.2.2.2.2.2.2.2.2.2.2.2.2.2.2.2.2.2.2.2.2.2.2.1 none), (qI u48.2.2.2.2.2.2.2.2.2.2.2.2.2.2.2.2.2.2.2.2.2.2.2.2.2.2)])] (jb 48).1.toks 0
 out := λ y => (.normal, mkS 239 [(73, (AV.list 1 y.1 none)), (82, (AV.list 1 y.2.1 none)), (92, (AV.list 1 y.2.2.1 none)), (107, (AV.list 1 y.2.2.2.1 none)), (1, (qI y.2.2.2.2.1)), (2, (qI y.2.2.2.2.2.1)), (3, (AV.v (.string y.2.2.2.2.2.2.1))), (5, (qI y.2.2.2.2.2.2.2.1)), (11, (AV.ptr 11 0)), (15, (AV.ptr 59 0)), (17, (qI y.2.2.2.2.2.2.2.2.1)), (19, (AV.ptr 19 0)), (21, (qI y.2.2.2.2.2.2.2.2.2.1)), (23, (AV.v (.string y.2.2.2.2.2.2.2.2.2.2.1))), (25, (qI y.2.2.2.2.2.2.2.2.2.2.2.1)), (26, (qI y.2.2.2.2.2.2.2.2.2.2.2.2.1)), (27, (AV.ptr 27 0)), (74, (qI y.2.2.2.2.2.2.2.2.2.2.2.2.2.1)), (75, (qI y.2.2.2.2.2.2.2.2.2.2.2.2.2.2.1)), (83, (qI y.2.2.2.2.2.2.2.2.2.2.2.2.2.2.2.1)), (84, (qI y.2.2.2.2.2.2.2.2.2.2.2.2.2.2.2.2.1)), (93, (qI y.2.2.2.2.2.2.2.2.2.2.2.2.2.2.2.2.2.1)), (94, (qI y.2.2.2.2.2.2.2.2.2.2.2.2.2.2.2.2.2.2.1)), (108, (qI y.2.2.2.2.2.2.2.2.2.2.2.2.2.2.2.2.2.2.2.1)), (109, (qI y.2.2.2.2.2.2.2.2.2.2.2.2.2.2.2.2.2.2.2.2.1))] [(11, (zu y.2.2.2.2.2.2.2.2.2.2.2.2.2.2.2.2.2.2.2.2.2.1)), (19, [(AV.list 1 y.2.2.2.2.2.2.2.2.2.2.2.2.2.2.2.2.2.2.2.2.2.2.1 none)]), (27, (zu y.2.2.2.2.2.2.2.2.2.2.2.2.2.2.2.2.2.2.2.2.2.2.2.1)), (59, [(AV.list 1 y.2.2.2.2.2.2.2.2.2.2.2.2.2.2.2.2.2.2.2.2.2.2.2.2.1 none), (qI y.2.2.2.2.2.2.2.2.2.2.2.2.2.2.2.2.2.2.2.2.2.2.2.2.2)])] (jb 48).2.toks 0)
 b := λ u48 α kn ke => (match u48.2.2.2.2.2.2.2.2.2.2.2.2.2.2.2.2.2.2.2.2.2.1 with | true => (ke (u48.1, u48.2.1, u48.2.2.1, u48.2.2.2.1, u48.2.2.2.2.1, u48.2.2.2.2.2.1, u48.2.2.2.2.2.2.1, u48.2.2.2.2.2.2.2.1, u48.2.2.2.2.2.2.2.2.1, u48.2.2.2.2.2.2.2.2.2.1, u48.2.2.2.2.2.2.2.2.2.2.1, u48.2.2.2.2.2.2.2.2.2.2.2.1, u48.2.2.2.2.2.2.2.2.2.2.2.2.1, u48.2.2.2.2.2.2.2.2.2.2.2.2.2.1, u48.2.2.2.2.2.2.2.2.2.2.2.2.2.2.1, u48.2.2.2.2.2.2.2.2.2.2.2.2.2.2.2.1, u48.2.2.2.2.2.2.2.2.2.2.2.2.2.2.2.2.1, u48.2.2.2.2.2.2.2.2.2.2.2.2.2.2.2.2.2.1, u48.2.2.2.2.2.2.2.2.2.2.2.2.2.2.2.2.2.2.1, u48.2.2.2.2.2.2.2.2.2.2.2.2.2.2.2.2.2.2.2.1, u48.2.2.2.2.2.2.2.2.2.2.2.2.2.2.2.2.2.2.2.2.1, u48.2.2.2.2.2.2.2.2.2.2.2.2.2.2.2.2.2.2.2.2.2.2.1, u48.2.2.2.2.2.2.2.2.2.2.2.2.2.2.2.2.2.2.2.2.2.2.2.1, u48.2.2.2.2.2.2.2.2.2.2.2.2.2.2.2.2.2.2.2.2.2.2.1, u48.2.2.2.2.2.2.2.2.2.2.2.2.2.2.2.2.2.2.2.2.2.2.2.2.2)) | false => (ke (u48.1, u48.2.1, u48.2.2.1, u48.2.2.2.1, u48.2.2.2.2.1, u48.2.2.2.2.2.1, u48.2.2.2.2.2.2.1, u48.2.2.2.2.2.2.2.1, u48.2.2.2.2.2.2.2.2.1, u48.2.2.2.2.2.2.2.2.2.1, u48.2.2.2.2.2.2.2.2.2.2.1, u48.2.2.2.2.2.2.2.2.2.2.2.1, u48.2.2.2.2.2.2.2.2.2.2.2.2.1, u48.2.2.2.2.2.2.2.2.2.2.2.2.2.1, u48.2.2.2.2.2.2.2.2.2.2.2.2.2.2.1, u48.2.2.2.2.2.2.2.2.2.2.2.2.2.2.2.1, u48.2.2.2.2.2.2.2.2.2.2.2.2.2.2.2.2.1, u48.2.2.2.2.2.2.2.2.2.2.2.2.2.2.2.2.2.1, u48.2.2.2.2.2.2.2.2.2.2.2.2.2.2.2.2.2.2.1, u48.2.2.2.2.2.2.2.2.2.2.2.2.2.2.2.2.2.2.2.1, u48.2.2.2.2.2.2.2.2.2.2.2.2.2.2.2.2.2.2.2.2.1, u48.2.2.2.2.2.2.2.2.2.2.2.2.2.2.2.2.2.2.2.2.2.2)))
abbrev zqb (N : Nat) (x : qL × qL × qL × qL × Int × Int × ByteArray × Int × Int × Int × ByteArray × Int × Int × Int × Int × Int × Int × Int × Int × Int × Int × Bool × RT0 × qL × RT0 × qL × Int) : Option ((qL × qL × qL × qL × Int × Int × ByteArray × Int × Int × Int × ByteArray × Int × Int × Int × Int × Int × Int × Int × Int × Int × Int × RT0 × qL × RT0 × qL × Int)) := (zai N).L N x
def jh (N : Nat) : LSpec where
 X := qL × qL × qL × qL × Int × Int × ByteArray × Int × Int × Int × ByteArray × Int × Int × Int × Int × Int × Int × Int × Int × RT0 × qL × qL × Int
 Y := (qL × qL × qL × Int × Int × ByteArray × Int × Bool × Int × Int × Int × Int × Int × Int × Int × Int × RT0 × qL × qL × Int) ⊕ (qL × qL × qL × Int × Int × ByteArray × Int × Int × Int × Int × Int × Int × Int × Int × Int × RT0 × qL × qL × Int)
 p := λ s => rdS 239 0 [(73, .lst 1), (82, .lst 1), (92, .lst 1), (107, .lst 1), (1, .int .i64), (2, .int .i64), (3, .str), (5, .int .i64), (11, .ptr 11 0), (15, .ptr 59 0), (17, .int .i64), (19, .ptr 19 0), (21, .int .i64), (23, .str), (74, .int .i64), (75, .int .i64), (83, .int .i64), (84, .int .i64), (93, .int .i64), (94, .int .i64), (108, .int .i64), (109, .int .i64)] [(11, .row RK0), (19, .cells [.lst 1]), (59, .cells [.lst 1, .int .i64])] s λ ⟨a0, a1, a2, a3, a4, a5, a6, a7, _, _, a8, _, a9, a10, a11, a12, a13, a14, a15, a16, a17, a18, _⟩ ⟨a19, ⟨a20, _⟩, ⟨a21, a22, _⟩, _⟩ => (a0, a1, a2, a3, a4, a5, a6, a7, a8, a9, a10, a11, a12, a13, a14, a15, a16, a17, a18, a19, a20, a21, a22)
 st := λ u37 => mkS 239 [(73, (AV.list 1 u37.1 none)), (82, (AV.list 1 u37.2.1 none)), (92, (AV.list 1 u37.2.2.1 none)), (107, (AV.list 1 u37.2.2.2.1 none)), (1, (qI u37.2.2.2.2.1)), (2, (qI u37.2.2.2.2.2.1)), (3, (AV.v (.string u37.2.2.2.2.2.2.1))), (5, (qI u37.2.2.2.2.2.2.2.1)), (11, (AV.ptr 11 0)), (15, (AV.ptr 59 0)), (17, (qI u37.2.2.2.2.2.2.2.2.1)), (19, (AV.ptr 19 0)), (21, (qI u37.2.2.2.2.2.2.2.2.2.1)), (23, (AV.v (.string u37.2.2.2.2.2.2.2.2.2.2.1))), (74, (qI u37.2.2.2.2.2.2.2.2.2.2.2.1)), (75, (qI u37.2.2.2.2.2.2.2.2.2.2.2.2.1)), (83, (qI u37.2.2.2.2.2.2.2.2.2.2.2.2.2.1)), (84, (qI u37.2.2.2.2.2.2.2.2.2.2.2.2.2.2.1)), (93, (qI u37.2.2.2.2.2.2.2.2.2.2.2.2.2.2.2.1)), (94, (qI u37.2.2.2.2.2.2.2.2.2.2.2.2.2.2.2.2.1)), (108, (qI u37.2.2.2.2.2.2.2.2.2.2.2.2.2.2.2.2.2.1)), (109, (qI u37.2.2.2.2.2.2.2.2.2.2.2.2.2.2.2.2.2.2.1))] [(11, (zu u37.2.2.2.2.2.2.2.2.2.2.2.2.2.2.2.2.2.2.2.1)), (19, [(AV.list 1 u37.2.2.2.2.2.2.2.2.2.2.2.2.2.2.2.2.2.2.2.2.1 none)]), (59, [(AV.list 1 u37.2.2.2.2.2.2.2.2.2.2.2.2.2.2.2.2.2.2.2.2.2.1 none), (qI u37.2.2.2.2.2.2.2.2.2.2.2.2.2.2.2.2.2.2.2.2.2.2)])] (jb 37).1.toks 0
 out := λ y => match y with
  | .inl y => (.ret, mkS 239 [(73, (AV.list 1 y.1 none)), (82, (AV.list 1 y.2.1 none)), (92, (AV.list 1 y.2.2.1 none)), (1, (qI y.2.2.2.1)), (2, (qI y.2.2.2.2.1)), (3, (AV.v (.string y.2.2.2.2.2.1))), (5, (qI y.2.2.2.2.2.2.1)), (11, (AV.ptr 11 0)), (14, (AV.v (.bool y.2.2.2.2.2.2.2.1))), (15, (AV.ptr 59 0)), (17, (qI y.2.2.2.2.2.2.2.2.1)), (19, (AV.ptr 19 0)), (21, (qI y.2.2.2.2.2.2.2.2.2.1)), (74, (qI y.2.2.2.2.2.2.2.2.2.2.1)), (75, (qI y.2.2.2.2.2.2.2.2.2.2.2.1)), (83, (qI y.2.2.2.2.2.2.2.2.2.2.2.2.1)), (84, (qI y.2.2.2.2.2.2.2.2.2.2.2.2.2.1)), (93, (qI y.2.2.2.2.2.2.2.2.2.2.2.2.2.2.1)), (94, (qI y.2.2.2.2.2.2.2.2.2.2.2.2.2.2.2.1))] [(11, (zu y.2.2.2.2.2.2.2.2.2.2.2.2.2.2.2.2.1)), (19, [(AV.list 1 y.2.2.2.2.2.2.2.2.2.2.2.2.2.2.2.2.2.1 none)]), (59, [(AV.list 1 y.2.2.2.2.2.2.2.2.2.2.2.2.2.2.2.2.2.2.1 none), (qI y.2.2.2.2.2.2.2.2.2.2.2.2.2.2.2.2.2.2.2)])] (jb 37).2.toks 0)
  | .inr y => (.exit 6, mkS 239 [(73, (AV.list 1 y.1 none)), (82, (AV.list 1 y.2.1 none)), (92, (AV.list 1 y.2.2.1 none)), (1, (qI y.2.2.2.1)), (2, (qI y.2.2.2.2.1)), (3, (AV.v (.string y.2.2.2.2.2.1))), (5, (qI y.2.2.2.2.2.2.1)), (11, (AV.ptr 11 0)), (15, (AV.ptr 59 0)), (17, (qI y.2.2.2.2.2.2.2.1)), (19, (AV.ptr 19 0)), (21, (qI y.2.2.2.2.2.2.2.2.1)), (74, (qI y.2.2.2.2.2.2.2.2.2.1)), (75, (qI y.2.2.2.2.2.2.2.2.2.2.1)), (83, (qI y.2.2.2.2.2.2.2.2.2.2.2.1)), (84, (qI y.2.2.2.2.2.2.2.2.2.2.2.2.1)), (93, (qI y.2.2.2.2.2.2.2.2.2.2.2.2.2.1)), (94, (qI y.2.2.2.2.2.2.2.2.2.2.2.2.2.2.1))] [(11, (zu y.2.2.2.2.2.2.2.2.2.2.2.2.2.2.2.1)), (19, [(AV.list 1 y.2.2.2.2.2.2.2.2.2.2.2.2.2.2.2.2.1 none)]), (59, [(AV.list 1 y.2.2.2.2.2.2.2.2.2.2.2.2.2.2.2.2.2.1 none), (qI y.2.2.2.2.2.2.2.2.2.2.2.2.2.2.2.2.2.2)])] (jb 37).2.toks 0)
 b := λ u37 α kn ke => (match (decide (u37.2.2.2.2.2.2.2.2.2.2.2.2.2.2.2.2.2.2.1 < u37.2.2.2.2.2.2.2.2.2.2.2.2.2.2.2.2.2.1)) with | true => (if 0 <= u37.2.2.2.2.2.2.2.2.2.2.2.2.2.2.2.2.2.2.1 then (match u37.2.2.2.1[u37.2.2.2.2.2.2.2.2.2.2.2.2.2.2.2.2.2.2.1.toNat]? with | some c43 => (match c43[0]? with | some x44 => (match x44 with | .v (.int q46 n45) => (if q46 = .i64 then (match zcW N ([[(AV.v (.int .i64 u37.2.2.2.2.2.1))], [(AV.v (.int .i64 0))], [(AV.v (.int .i64 1))], [(AV.v (.int .i64 2))], [(AV.v (.int .i64 u37.2.2.2.2.2.2.2.2.2.1))]], u37.2.2.2.2.2.2.2.2.2.2.2.2.2.2.2.2.2.2.2.2.2) with | some y47 => (match zru N (1, y47.2) with | some y48 => (match zN N (3, y48.2) with | some y49 => (match zqb N (u37.1, u37.2.1, u37.2.2.1, u37.2.2.2.1, u37.2.2.2.2.1, u37.2.2.2.2.2.1, u37.2.2.2.2.2.2.1, u37.2.2.2.2.2.2.2.1, u37.2.2.2.2.2.2.2.2.1, u37.2.2.2.2.2.2.2.2.2.1, u37.2.2.2.2.2.2.2.2.2.2.1, n45, y47.1, u37.2.2.2.2.2.2.2.2.2.2.2.1, u37.2.2.2.2.2.2.2.2.2.2.2.2.1, u37.2.2.2.2.2.2.2.2.2.2.2.2.2.1, u37.2.2.2.2.2.2.2.2.2.2.2.2.2.2.1, u37.2.2.2.2.2.2.2.2.2.2.2.2.2.2.2.1, u37.2.2.2.2.2.2.2.2.2.2.2.2.2.2.2.2.1, u37.2.2.2.2.2.2.2.2.2.2.2.2.2.2.2.2.2.1, u37.2.2.2.2.2.2.2.2.2.2.2.2.2.2.2.2.2.2.1, (y49.1 == 0), u37.2.2.2.2.2.2.2.2.2.2.2.2.2.2.2.2.2.2.2.1, u37.2.2.2.2.2.2.2.2.2.2.2.2.2.2.2.2.2.2.2.2.1, y48.1, y49.2) with | some y50 => (match znw N (y50.2.2.2.2.2.2.2.2.2.2.2.2.2.2.2.2.2.2.2.2.2.2.1, y50.2.2.2.2.2.2.2.2.2.1, y50.2.2.2.2.2.2.2.2.2.2.1, y50.2.2.2.2.2.2.2.2.2.2.2.2.2.2.2.2.2.2.2.2.2.2.2.1, y50.2.2.2.2.2.2.2.2.2.2.2.1) with | some y51 => (match zko N (y50.2.2.2.2.2.2.2.2.2.2.2.2.2.2.2.2.2.2.2.2.2.2.1, y50.2.2.2.2.2.2.2.2.2.1, y50.2.2.2.2.2.2.2.2.2.2.1, y50.2.2.2.2.2.2.2.2.2.2.2.2.2.2.2.2.2.2.2.2.2.2.2.1, y50.2.2.2.2.2.2.2.2.2.2.2.1) with | some y52 => (match zrw N (y50.2.2.2.2.2.2.2.2.2.2.2.2.2.2.2.2.2.2.2.2.2.2.1, y50.2.2.2.2.2.2.2.2.2.1, y50.2.2.2.2.2.2.2.2.2.2.1, y50.2.2.2.2.2.2.2.2.2.2.2.1) with | some y53 => (match zkp N (y50.2.2.2.2.2.2.2.2.2.2.2.2.2.2.2.2.2.2.2.2.2.2.1, y50.2.2.2.2.2.2.2.2.2.1, y50.2.2.2.2.2.2.2.2.2.2.1, y50.2.2.2.2.2.2.2.2.2.2.2.1) with | some y54 => (match zrx N (y50.2.2.2.2.2.2.2.2.2.2.2.2.2.2.2.2.2.2.2.2.2.2.1, y50.2.2.2.2.2.2.2.2.2.1, y50.2.2.2.2.2.2.2.2.2.2.2.2.1, y50.2.2.2.2.2.2.2.2.2.2.1, y50.2.2.2.2.2.2.2.2.2.2.2.1) with | some y55 => (match zkq N (y50.2.2.2.2.2.2.2.2.2.2.2.2.2.2.2.2.2.2.2.2.2.2.1, y50.2.2.2.2.2.2.2.2.2.1, y50.2.2.2.2.2.2.2.2.2.2.2.2.1, y50.2.2.2.2.2.2.2.2.2.2.1, y50.2.2.2.2.2.2.2.2.2.2.2.1) with | some y56 => (match zry N (y50.2.2.2.2.2.2.2.2.2.2.2.2.2.2.2.2.2.2.2.2.2.2.1, y50.2.2.2.2.2.2.2.2.2.1, y50.2.2.2.2.2.2.2.2.2.2.1, y50.2.2.2.2.2.2.2.2.2.2.2.1) with | some y57 => (match zkr N (y50.2.2.2.2.2.2.2.2.2.2.2.2.2.2.2.2.2.2.2.2.2.2.1, y50.2.2.2.2.2.2.2.2.2.1, y50.2.2.2.2.2.2.2.2.2.2.1, y50.2.2.2.2.2.2.2.2.2.2.2.1) with | some y58 => (match (y51.2 != y52.2) with | true => (ke (.inl (y50.1, y50.2.1, y50.2.2.1, y50.2.2.2.2.1, y50.2.2.2.2.2.1, y50.2.2.2.2.2.2.1, y50.2.2.2.2.2.2.2.1, false, y50.2.2.2.2.2.2.2.2.1, y50.2.2.2.2.2.2.2.2.2.1, y50.2.2.2.2.2.2.2.2.2.2.2.2.2.1, y50.2.2.2.2.2.2.2.2.2.2.2.2.2.2.1, y50.2.2.2.2.2.2.2.2.2.2.2.2.2.2.2.1, y50.2.2.2.2.2.2.2.2.2.2.2.2.2.2.2.2.1, y50.2.2.2.2.2.2.2.2.2.2.2.2.2.2.2.2.2.1, y50.2.2.2.2.2.2.2.2.2.2.2.2.2.2.2.2.2.2.1, y50.2.2.2.2.2.2.2.2.2.2.2.2.2.2.2.2.2.2.2.2.2.1, y50.2.2.2.2.2.2.2.2.2.2.2.2.2.2.2.2.2.2.2.2.2.2.1, y50.2.2.2.2.2.2.2.2.2.2.2.2.2.2.2.2.2.2.2.2.2.2.2.2))) | false => (match (y53.2 != y54.2) with | true => (ke (.inl (y50.1, y50.2.1, y50.2.2.1, y50.2.2.2.2.1, y50.2.2.2.2.2.1, y50.2.2.2.2.2.2.1, y50.2.2.2.2.2.2.2.1, false, y50.2.2.2.2.2.2.2.2.1, y50.2.2.2.2.2.2.2.2.2.1, y50.2.2.2.2.2.2.2.2.2.2.2.2.2.1, y50.2.2.2.2.2.2.2.2.2.2.2.2.2.2.1, y50.2.2.2.2.2.2.2.2.2.2.2.2.2.2.2.1, y50.2.2.2.2.2.2.2.2.2.2.2.2.2.2.2.2.1, y50.2.2.2.2.2.2.2.2.2.2.2.2.2.2.2.2.2.1, y50.2.2.2.2.2.2.2.2.2.2.2.2.2.2.2.2.2.2.1, y50.2.2.2.2.2.2.2.2.2.2.2.2.2.2.2.2.2.2.2.2.2.1, y50.2.2.2.2.2.2.2.2.2.2.2.2.2.2.2.2.2.2.2.2.2.2.1, y50.2.2.2.2.2.2.2.2.2.2.2.2.2.2.2.2.2.2.2.2.2.2.2.2))) | false => (match (y55.2 != y56.2) with | true => (ke (.inl (y50.1, y50.2.1, y50.2.2.1, y50.2.2.2.2.1, y50.2.2.2.2.2.1, y50.2.2.2.2.2.2.1, y50.2.2.2.2.2.2.2.1, false, y50.2.2.2.2.2.2.2.2.1, y50.2.2.2.2.2.2.2.2.2.1, y50.2.2.2.2.2.2.2.2.2.2.2.2.2.1, y50.2.2.2.2.2.2.2.2.2.2.2.2.2.2.1, y50.2.2.2.2.2.2.2.2.2.2.2.2.2.2.2.1, y50.2.2.2.2.2.2.2.2.2.2.2.2.2.2.2.2.1, y50.2.2.2.2.2.2.2.2.2.2.2.2.2.2.2.2.2.1, y50.2.2.2.2.2.2.2.2.2.2.2.2.2.2.2.2.2.2.1, y50.2.2.2.2.2.2.2.2.2.2.2.2.2.2.2.2.2.2.2.2.2.1, y50.2.2.2.2.2.2.2.2.2.2.2.2.2.2.2.2.2.2.2.2.2.2.1, y50.2.2.2.2.2.2.2.2.2.2.2.2.2.2.2.2.2.2.2.2.2.2.2.2))) | false => (match (y57.2 != y58.2) with | true => (ke (.inl (y50.1, y50.2.1, y50.2.2.1, y50.2.2.2.2.1, y50.2.2.2.2.2.1, y50.2.2.2.2.2.2.1, y50.2.2.2.2.2.2.2.1, false, y50.2.2.2.2.2.2.2.2.1, y50.2.2.2.2.2.2.2.2.2.1, y50.2.2.2.2.2.2.2.2.2.2.2.2.2.1, y50.2.2.2.2.2.2.2.2.2.2.2.2.2.2.1, y50.2.2.2.2.2.2.2.2.2.2.2.2.2.2.2.1, y50.2.2.2.2.2.2.2.2.2.2.2.2.2.2.2.2.1, y50.2.2.2.2.2.2.2.2.2.2.2.2.2.2.2.2.2.1, y50.2.2.2.2.2.2.2.2.2.2.2.2.2.2.2.2.2.2.1, y50.2.2.2.2.2.2.2.2.2.2.2.2.2.2.2.2.2.2.2.2.2.1, y50.2.2.2.2.2.2.2.2.2.2.2.2.2.2.2.2.2.2.2.2.2.2.1, y50.2.2.2.2.2.2.2.2.2.2.2.2.2.2.2.2.2.2.2.2.2.2.2.2))) | false => (match zbM N (y51.1, y52.1) with | some y59 => (match (!y59) with | true => (ke (.inl (y50.1, y50.2.1, y50.2.2.1, y50.2.2.2.2.1, y50.2.2.2.2.2.1, y50.2.2.2.2.2.2.1, y50.2.2.2.2.2.2.2.1, false, y50.2.2.2.2.2.2.2.2.1, y50.2.2.2.2.2.2.2.2.2.1, y50.2.2.2.2.2.2.2.2.2.2.2.2.2.1, y50.2.2.2.2.2.2.2.2.2.2.2.2.2.2.1, y50.2.2.2.2.2.2.2.2.2.2.2.2.2.2.2.1, y50.2.2.2.2.2.2.2.2.2.2.2.2.2.2.2.2.1, y50.2.2.2.2.2.2.2.2.2.2.2.2.2.2.2.2.2.1, y50.2.2.2.2.2.2.2.2.2.2.2.2.2.2.2.2.2.2.1, y50.2.2.2.2.2.2.2.2.2.2.2.2.2.2.2.2.2.2.2.2.2.1, y50.2.2.2.2.2.2.2.2.2.2.2.2.2.2.2.2.2.2.2.2.2.2.1, y50.2.2.2.2.2.2.2.2.2.2.2.2.2.2.2.2.2.2.2.2.2.2.2.2))) | false => (match zbM N (y53.1, y54.1) with | some y60 => (match (!y60) with | true => (ke (.inl (y50.1, y50.2.1, y50.2.2.1, y50.2.2.2.2.1, y50.2.2.2.2.2.1, y50.2.2.2.2.2.2.1, y50.2.2.2.2.2.2.2.1, false, y50.2.2.2.2.2.2.2.2.1, y50.2.2.2.2.2.2.2.2.2.1, y50.2.2.2.2.2.2.2.2.2.2.2.2.2.1, y50.2.2.2.2.2.2.2.2.2.2.2.2.2.2.1, y50.2.2.2.2.2.2.2.2.2.2.2.2.2.2.2.1, y50.2.2.2.2.2.2.2.2.2.2.2.2.2.2.2.2.1, y50.2.2.2.2.2.2.2.2.2.2.2.2.2.2.2.2.2.1, y50.2.2.2.2.2.2.2.2.2.2.2.2.2.2.2.2.2.2.1, y50.2.2.2.2.2.2.2.2.2.2.2.2.2.2.2.2.2.2.2.2.2.1, y50.2.2.2.2.2.2.2.2.2.2.2.2.2.2.2.2.2.2.2.2.2.2.1, y50.2.2.2.2.2.2.2.2.2.2.2.2.2.2.2.2.2.2.2.2.2.2.2.2))) | false => (match zbM N (y55.1, y56.1) with | some y61 => (match (!y61) with | true => (ke (.inl (y50.1, y50.2.1, y50.2.2.1, y50.2.2.2.2.1, y50.2.2.2.2.2.1, y50.2.2.2.2.2.2.1, y50.2.2.2.2.2.2.2.1, false, y50.2.2.2.2.2.2.2.2.1, y50.2.2.2.2.2.2.2.2.2.1, y50.2.2.2.2.2.2.2.2.2.2.2.2.2.1, y50.2.2.2.2.2.2.2.2.2.2.2.2.2.2.1, y50.2.2.2.2.2.2.2.2.2.2.2.2.2.2.2.1, y50.2.2.2.2.2.2.2.2.2.2.2.2.2.2.2.2.1, y50.2.2.2.2.2.2.2.2.2.2.2.2.2.2.2.2.2.1, y50.2.2.2.2.2.2.2.2.2.2.2.2.2.2.2.2.2.2.1, y50.2.2.2.2.2.2.2.2.2.2.2.2.2.2.2.2.2.2.2.2.2.1, y50.2.2.2.2.2.2.2.2.2.2.2.2.2.2.2.2.2.2.2.2.2.2.1, y50.2.2.2.2.2.2.2.2.2.2.2.2.2.2.2.2.2.2.2.2.2.2.2.2))) | false => (match zbM N (y57.1, y58.1) with | some y62 => (match (!y62) with | true => (ke (.inl (y50.1, y50.2.1, y50.2.2.1, y50.2.2.2.2.1, y50.2.2.2.2.2.1, y50.2.2.2.2.2.2.1, y50.2.2.2.2.2.2.2.1, false, y50.2.2.2.2.2.2.2.2.1, y50.2.2.2.2.2.2.2.2.2.1, y50.2.2.2.2.2.2.2.2.2.2.2.2.2.1, y50.2.2.2.2.2.2.2.2.2.2.2.2.2.2.1, y50.2.2.2.2.2.2.2.2.2.2.2.2.2.2.2.1, y50.2.2.2.2.2.2.2.2.2.2.2.2.2.2.2.2.1, y50.2.2.2.2.2.2.2.2.2.2.2.2.2.2.2.2.2.1, y50.2.2.2.2.2.2.2.2.2.2.2.2.2.2.2.2.2.2.1, y50.2.2.2.2.2.2.2.2.2.2.2.2.2.2.2.2.2.2.2.2.2.1, y50.2.2.2.2.2.2.2.2.2.2.2.2.2.2.2.2.2.2.2.2.2.2.1, y50.2.2.2.2.2.2.2.2.2.2.2.2.2.2.2.2.2.2.2.2.2.2.2.2))) | false => (kn (y50.1, y50.2.1, y50.2.2.1, y50.2.2.2.1, y50.2.2.2.2.1, y50.2.2.2.2.2.1, y50.2.2.2.2.2.2.1, y50.2.2.2.2.2.2.2.1, y50.2.2.2.2.2.2.2.2.1, y50.2.2.2.2.2.2.2.2.2.1, y50.2.2.2.2.2.2.2.2.2.2.1, y50.2.2.2.2.2.2.2.2.2.2.2.2.2.1, y50.2.2.2.2.2.2.2.2.2.2.2.2.2.2.1, y50.2.2.2.2.2.2.2.2.2.2.2.2.2.2.2.1, y50.2.2.2.2.2.2.2.2.2.2.2.2.2.2.2.2.1, y50.2.2.2.2.2.2.2.2.2.2.2.2.2.2.2.2.2.1, y50.2.2.2.2.2.2.2.2.2.2.2.2.2.2.2.2.2.2.1, y50.2.2.2.2.2.2.2.2.2.2.2.2.2.2.2.2.2.2.2.1, (i64 (y50.2.2.2.2.2.2.2.2.2.2.2.2.2.2.2.2.2.2.2.2.1 + 1)), y50.2.2.2.2.2.2.2.2.2.2.2.2.2.2.2.2.2.2.2.2.2.1, y50.2.2.2.2.2.2.2.2.2.2.2.2.2.2.2.2.2.2.2.2.2.2.1, y50.2.2.2.2.2.2.2.2.2.2.2.2.2.2.2.2.2.2.2.2.2.2.2.2))) | none => none)) | none => none)) | none => none)) | none => none))))) | none => none) | none => none) | none => none) | none => none) | none => none) | none => none) | none => none) | none => none) | none => none) | none => none) | none => none) | none => none) else none) | _ => none) | none => none) | none => none) else none) | false => (ke (.inr (u37.1, u37.2.1, u37.2.2.1, u37.2.2.2.2.1, u37.2.2.2.2.2.1, u37.2.2.2.2.2.2.1, u37.2.2.2.2.2.2.2.1, u37.2.2.2.2.2.2.2.2.1, u37.2.2.2.2.2.2.2.2.2.1, u37.2.2.2.2.2.2.2.2.2.2.2.1, u37.2.2.2.2.2.2.2.2.2.2.2.2.1, u37.2.2.2.2.2.2.2.2.2.2.2.2.2.1, u37.2.2.2.2.2.2.2.2.2.2.2.2.2.2.1, u37.2.2.2.2.2.2.2.2.2.2.2.2.2.2.2.1, u37.2.2.2.2.2.2.2.2.2.2.2.2.2.2.2.2.1, u37.2.2.2.2.2.2.2.2.2.2.2.2.2.2.2.2.2.2.2))))
abbrev zqa (N : Nat) (x : qL × qL × qL × qL × Int × Int × ByteArray × Int × Int × Int × ByteArray × Int × Int × Int × Int × Int × Int × Int × Int × RT0 × qL × qL × Int) : Option ((qL × qL × qL × Int × Int × ByteArray × Int × Bool × Int × Int × Int × Int × Int × Int × Int × Int × RT0 × qL × qL × Int) ⊕ (qL × qL × qL × Int × Int × ByteArray × Int × Int × Int × Int × Int × Int × Int × Int × Int × RT0 × qL × qL × Int)) := (jh N).L N x
def jg (N : Nat) : LSpec where
 X := qL × qL × qL × Int × Int × ByteArray × Int × Int × Int × Int × Int × Int × Int × Int × Int × RT0 × qL × qL × Int
 Y := (qL × qL × Int × Int × ByteArray × Int × Bool × Int × Int × Int × Int × Int × RT0 × qL × qL × Int) ⊕ (qL × qL × Int × Int × ByteArray × Int × Int × Int × Int × Int × Int × RT0 × qL × qL × Int)
 p := λ s => rdS 239 0 [(73, .lst 1), (82, .lst 1), (92, .lst 1), (1, .int .i64), (2, .int .i64), (3, .str), (5, .int .i64), (11, .ptr 11 0), (15, .ptr 59 0), (17, .int .i64), (19, .ptr 19 0), (21, .int .i64), (74, .int .i64), (75, .int .i64), (83, .int .i64), (84, .int .i64), (93, .int .i64), (94, .int .i64)] [(11, .row RK0), (19, .cells [.lst 1]), (59, .cells [.lst 1, .int .i64])] s λ ⟨a0, a1, a2, a3, a4, a5, a6, _, _, a7, _, a8, a9, a10, a11, a12, a13, a14, _⟩ ⟨a15, ⟨a16, _⟩, ⟨a17, a18, _⟩, _⟩ => (a0, a1, a2, a3, a4, a5, a6, a7, a8, a9, a10, a11, a12, a13, a14, a15, a16, a17, a18)
 st := λ u28 => mkS 239 [(73, (AV.list 1 u28.1 none)), (82, (AV.list 1 u28.2.1 none)), (92, (AV.list 1 u28.2.2.1 none)), (1, (qI u28.2.2.2.1)), (2, (qI u28.2.2.2.2.1)), (3, (AV.v (.string u28.2.2.2.2.2.1))), (5, (qI u28.2.2.2.2.2.2.1)), (11, (AV.ptr 11 0)), (15, (AV.ptr 59 0)), (17, (qI u28.2.2.2.2.2.2.2.1)), (19, (AV.ptr 19 0)), (21, (qI u28.2.2.2.2.2.2.2.2.1)), (74, (qI u28.2.2.2.2.2.2.2.2.2.1)), (75, (qI u28.2.2.2.2.2.2.2.2.2.2.1)), (83, (qI u28.2.2.2.2.2.2.2.2.2.2.2.1)), (84, (qI u28.2.2.2.2.2.2.2.2.2.2.2.2.1)), (93, (qI u28.2.2.2.2.2.2.2.2.2.2.2.2.2.1)), (94, (qI u28.2.2.2.2.2.2.2.2.2.2.2.2.2.2.1))] [(11, (zu u28.2.2.2.2.2.2.2.2.2.2.2.2.2.2.2.1)), (19, [(AV.list 1 u28.2.2.2.2.2.2.2.2.2.2.2.2.2.2.2.2.1 none)]), (59, [(AV.list 1 u28.2.2.2.2.2.2.2.2.2.2.2.2.2.2.2.2.2.1 none), (qI u28.2.2.2.2.2.2.2.2.2.2.2.2.2.2.2.2.2.2)])] (jb 28).1.toks 0
 out := λ y => match y with
  | .inl y => (.ret, mkS 239 [(73, (AV.list 1 y.1 none)), (82, (AV.list 1 y.2.1 none)), (1, (qI y.2.2.1)), (2, (qI y.2.2.2.1)), (3, (AV.v (.string y.2.2.2.2.1))), (5, (qI y.2.2.2.2.2.1)), (11, (AV.ptr 11 0)), (14, (AV.v (.bool y.2.2.2.2.2.2.1))), (15, (AV.ptr 59 0)), (17, (qI y.2.2.2.2.2.2.2.1)), (19, (AV.ptr 19 0)), (74, (qI y.2.2.2.2.2.2.2.2.1)), (75, (qI y.2.2.2.2.2.2.2.2.2.1)), (83, (qI y.2.2.2.2.2.2.2.2.2.2.1)), (84, (qI y.2.2.2.2.2.2.2.2.2.2.2.1))] [(11, (zu y.2.2.2.2.2.2.2.2.2.2.2.2.1)), (19, [(AV.list 1 y.2.2.2.2.2.2.2.2.2.2.2.2.2.1 none)]), (59, [(AV.list 1 y.2.2.2.2.2.2.2.2.2.2.2.2.2.2.1 none), (qI y.2.2.2.2.2.2.2.2.2.2.2.2.2.2.2)])] (jb 28).2.toks 0)
  | .inr y => (.exit 4, mkS 239 [(73, (AV.list 1 y.1 none)), (82, (AV.list 1 y.2.1 none)), (1, (qI y.2.2.1)), (2, (qI y.2.2.2.1)), (3, (AV.v (.string y.2.2.2.2.1))), (5, (qI y.2.2.2.2.2.1)), (11, (AV.ptr 11 0)), (15, (AV.ptr 59 0)), (17, (qI y.2.2.2.2.2.2.1)), (19, (AV.ptr 19 0)), (74, (qI y.2.2.2.2.2.2.2.1)), (75, (qI y.2.2.2.2.2.2.2.2.1)), (83, (qI y.2.2.2.2.2.2.2.2.2.1)), (84, (qI y.2.2.2.2.2.2.2.2.2.2.1))] [(11, (zu y.2.2.2.2.2.2.2.2.2.2.2.1)), (19, [(AV.list 1 y.2.2.2.2.2.2.2.2.2.2.2.2.1 none)]), (59, [(AV.list 1 y.2.2.2.2.2.2.2.2.2.2.2.2.2.1 none), (qI y.2.2.2.2.2.2.2.2.2.2.2.2.2.2)])] (jb 28).2.toks 0)
 b := λ u28 α kn ke => (match (decide (u28.2.2.2.2.2.2.2.2.2.2.2.2.2.2.1 < u28.2.2.2.2.2.2.2.2.2.2.2.2.2.1)) with | true => (if 0 <= u28.2.2.2.2.2.2.2.2.2.2.2.2.2.2.1 then (match u28.2.2.1[u28.2.2.2.2.2.2.2.2.2.2.2.2.2.2.1.toNat]? with | some c66 => (match c66[0]? with | some x67 => (match x67 with | .v (.string s68) => (match zN N (20, u28.2.2.2.2.2.2.2.2.2.2.2.2.2.2.2.2.2) with | some y69 => (match zN N (60, y69.2) with | some y70 => (match zqa N (u28.1, u28.2.1, u28.2.2.1, [[(AV.v (.int .i64 u28.2.2.2.2.2.2.1))], [(AV.v (.int .i64 (i64 (u28.2.2.2.2.2.2.2.1 + y69.1))))], [(AV.v (.int .i64 (i64 (u28.2.2.2.2.2.2.2.1 - y70.1))))]], u28.2.2.2.1, u28.2.2.2.2.1, u28.2.2.2.2.2.1, u28.2.2.2.2.2.2.1, u28.2.2.2.2.2.2.2.1, u28.2.2.2.2.2.2.2.2.1, s68, u28.2.2.2.2.2.2.2.2.2.1, u28.2.2.2.2.2.2.2.2.2.2.1, u28.2.2.2.2.2.2.2.2.2.2.2.1, u28.2.2.2.2.2.2.2.2.2.2.2.2.1, u28.2.2.2.2.2.2.2.2.2.2.2.2.2.1, u28.2.2.2.2.2.2.2.2.2.2.2.2.2.2.1, ([[(AV.v (.int .i64 u28.2.2.2.2.2.2.1))], [(AV.v (.int .i64 (i64 (u28.2.2.2.2.2.2.2.1 + y69.1))))], [(AV.v (.int .i64 (i64 (u28.2.2.2.2.2.2.2.1 - y70.1))))]].length : Int), 0, u28.2.2.2.2.2.2.2.2.2.2.2.2.2.2.2.1, u28.2.2.2.2.2.2.2.2.2.2.2.2.2.2.2.2.1, y70.2) with | some y71 => (match y71 with | .inl z72 => (ke (.inl (z72.1, z72.2.1, z72.2.2.2.1, z72.2.2.2.2.1, z72.2.2.2.2.2.1, z72.2.2.2.2.2.2.1, z72.2.2.2.2.2.2.2.1, z72.2.2.2.2.2.2.2.2.1, z72.2.2.2.2.2.2.2.2.2.2.1, z72.2.2.2.2.2.2.2.2.2.2.2.1, z72.2.2.2.2.2.2.2.2.2.2.2.2.1, z72.2.2.2.2.2.2.2.2.2.2.2.2.2.1, z72.2.2.2.2.2.2.2.2.2.2.2.2.2.2.2.2))) | .inr z73 => (kn (z73.1, z73.2.1, z73.2.2.1, z73.2.2.2.1, z73.2.2.2.2.1, z73.2.2.2.2.2.1, z73.2.2.2.2.2.2.1, z73.2.2.2.2.2.2.2.1, z73.2.2.2.2.2.2.2.2.1, z73.2.2.2.2.2.2.2.2.2.1, z73.2.2.2.2.2.2.2.2.2.2.1, z73.2.2.2.2.2.2.2.2.2.2.2.1, z73.2.2.2.2.2.2.2.2.2.2.2.2.1, z73.2.2.2.2.2.2.2.2.2.2.2.2.2.1, (i64 (z73.2.2.2.2.2.2.2.2.2.2.2.2.2.2.1 + 1)), z73.2.2.2.2.2.2.2.2.2.2.2.2.2.2.2))) | none => none) | none => none) | none => none) | _ => none) | none => none) | none => none) else none) | false => (ke (.inr (u28.1, u28.2.1, u28.2.2.2.1, u28.2.2.2.2.1, u28.2.2.2.2.2.1, u28.2.2.2.2.2.2.1, u28.2.2.2.2.2.2.2.1, u28.2.2.2.2.2.2.2.2.2.1, u28.2.2.2.2.2.2.2.2.2.2.1, u28.2.2.2.2.2.2.2.2.2.2.2.1, u28.2.2.2.2.2.2.2.2.2.2.2.2.1, u28.2.2.2.2.2.2.2.2.2.2.2.2.2.2.2))))
abbrev zp9 (N : Nat) (x : qL × qL × qL × Int × Int × ByteArray × Int × Int × Int × Int × Int × Int × Int × Int × Int × RT0 × qL × qL × Int) : Option ((qL × qL × Int × Int × ByteArray × Int × Bool × Int × Int × Int × Int × Int × RT0 × qL × qL × Int) ⊕ (qL × qL × Int × Int × ByteArray × Int × Int × Int × Int × Int × Int × RT0 × qL × qL × Int)) := (jg N).L N x
def j8 (N : Nat) : LSpec where
 X := qL × qL × Int × Int × ByteArray × Int × Int × Int × Int × Int × Int × RT0 × qL × qL × Int
 Y := (qL × Int × Int × ByteArray × Int × Bool × Int × Int × Int × RT0 × qL × Int) ⊕ (qL × Int × Int × ByteArray × Int × Int × Int × Int × RT0 × qL × Int)
 dt := .mk 239 0 (jb 19).1.toks [(73, .lst 1), (82, .lst 1), (1, .int .i64), (2, .int .i64), (3, .str), (5, .int .i64), (11, .ptr 11 0), (15, .ptr 59 0), (17, .int .i64), (19, .ptr 19 0), (74, .int .i64), (75, .int .i64), (83, .int .i64), (84, .int .i64)] [(11, .row RK0), (19, .cells [.lst 1]), (59, .cells [.lst 1, .int .i64])] rfl
 od := .mk 239 0 (jb 19).2.toks [⟨.ret, [(73, .lst 1), (1, .int .i64), (2, .int .i64), (3, .str), (5, .int .i64), (11, .ptr 11 0), (14, .bool), (15, .ptr 59 0), (17, .int .i64), (74, .int .i64), (75, .int .i64)], [(11, .row RK0), (59, .cells [.lst 1, .int .i64])], none⟩, ⟨.exit 2, [(73, .lst 1), (1, .int .i64), (2, .int .i64), (3, .str), (5, .int .i64), (11, .ptr 11 0), (15, .ptr 59 0), (17, .int .i64), (74, .int .i64), (75, .int .i64)], [(11, .row RK0), (59, .cells [.lst 1, .int .i64])], none⟩] rfl
 b := λ u19 α kn ke => (match (decide (u19.2.2.2.2.2.2.2.2.2.2.1 < u19.2.2.2.2.2.2.2.2.2.1)) with | true => (if 0 <= u19.2.2.2.2.2.2.2.2.2.2.1 then (match u19.2.1[u19.2.2.2.2.2.2.2.2.2.2.1.toNat]? with | some c77 => (match c77[0]? with | some x78 => (match x78 with | .v (.int q80 n79) => (if q80 = .i64 then (match Ji N ([[(AV.v (.string (⟨#[97, 110, 110]⟩ : ByteArray)))], [(AV.v (.string (⟨#[98, 111, 98]⟩ : ByteArray)))], [(AV.v (.string (⟨#[]⟩ : ByteArray)))], [(AV.v (.string (⟨#[65, 110, 110]⟩ : ByteArray)))], [(AV.v (.string (⟨#[97, 98, 99, 100, 101, 102, 103, 104, 105, 106, 107, 108, 109, 110, 111, 112]⟩ : ByteArray)))], [(AV.v (.string (⟨#[97, 98, 99, 100, 101, 102, 103, 104, 105, 106, 107, 108, 109, 110, 111, 112, 113]⟩ : ByteArray)))]], u19.2.2.2.2.2.2.2.2.2.2.2.2.2) with | some y81 => (match zp9 N (u19.1, u19.2.1, [[(AV.v (.string u19.2.2.2.2.1))], [(AV.v (.string y81.1))]], u19.2.2.1, u19.2.2.2.1, u19.2.2.2.2.1, u19.2.2.2.2.2.1, u19.2.2.2.2.2.2.1, n79, u19.2.2.2.2.2.2.2.1, u19.2.2.2.2.2.2.2.2.1, u19.2.2.2.2.2.2.2.2.2.1, u19.2.2.2.2.2.2.2.2.2.2.1, ([[(AV.v (.string u19.2.2.2.2.1))], [(AV.v (.string y81.1))]].length : Int), 0, u19.2.2.2.2.2.2.2.2.2.2.2.1, u19.2.2.2.2.2.2.2.2.2.2.2.2.1, y81.2) with | some y82 => (match y82 with | .inl z83 => (ke (.inl (z83.1, z83.2.2.1, z83.2.2.2.1, z83.2.2.2.2.1, z83.2.2.2.2.2.1, z83.2.2.2.2.2.2.1, z83.2.2.2.2.2.2.2.1, z83.2.2.2.2.2.2.2.2.1, z83.2.2.2.2.2.2.2.2.2.1, z83.2.2.2.2.2.2.2.2.2.2.2.2.1, z83.2.2.2.2.2.2.2.2.2.2.2.2.2.2))) | .inr z84 => (kn (z84.1, z84.2.1, z84.2.2.1, z84.2.2.2.1, z84.2.2.2.2.1, z84.2.2.2.2.2.1, z84.2.2.2.2.2.2.1, z84.2.2.2.2.2.2.2.1, z84.2.2.2.2.2.2.2.2.1, z84.2.2.2.2.2.2.2.2.2.1, (i64 (z84.2.2.2.2.2.2.2.2.2.2.1 + 1)), z84.2.2.2.2.2.2.2.2.2.2.2))) | none => none) | none => none) else none) | _ => none) | none => none) | none => none) else none) | false => (ke (.inr (u19.1, u19.2.2.1, u19.2.2.2.1, u19.2.2.2.2.1, u19.2.2.2.2.2.1, u19.2.2.2.2.2.2.1, u19.2.2.2.2.2.2.2.1, u19.2.2.2.2.2.2.2.2.1, u19.2.2.2.2.2.2.2.2.2.2.2.1, u19.2.2.2.2.2.2.2.2.2.2.2.2.2))))
abbrev zp8 (N : Nat) (x : qL × qL × Int × Int × ByteArray × Int × Int × Int × Int × Int × Int × RT0 × qL × qL × Int) : Option ((qL × Int × Int × ByteArray × Int × Bool × Int × Int × Int × RT0 × qL × Int) ⊕ (qL × Int × Int × ByteArray × Int × Int × Int × Int × RT0 × qL × Int)) := (j8 N).L N x
def j7 (N : Nat) : LSpec where
 X := qL × Int × Int × ByteArray × Int × Int × Int × Int × RT0 × qL × Int
 Y := (Bool) ⊕ (Unit)
 dt := .mk 239 0 (jb 10).1.toks [(73, .lst 1), (1, .int .i64), (2, .int .i64), (3, .str), (5, .int .i64), (11, .ptr 11 0), (15, .ptr 59 0), (17, .int .i64), (74, .int .i64), (75, .int .i64)] [(11, .row RK0), (59, .cells [.lst 1, .int .i64])] rfl
 od := .mk 239 0 (jb 10).2.toks [⟨.ret, [(14, .bool)], [], none⟩, ⟨.exit 0, [], [], none⟩] rfl
 b := λ u10 α kn ke => (match (decide (u10.2.2.2.2.2.2.2.1 < u10.2.2.2.2.2.2.1)) with | true => (if 0 <= u10.2.2.2.2.2.2.2.1 then (match u10.1[u10.2.2.2.2.2.2.2.1.toNat]? with | some c10 => (match zxd c10 with | some e11 => (match zN N (4, u10.2.2.2.2.2.2.2.2.2) with | some y12 => (match zp8 N (u10.1, [[(AV.v (.int .i64 u10.2.1))], [(AV.v (.int .i64 y12.1))], [(AV.v (.int .i64 (-1)))]], u10.2.1, u10.2.2.1, u10.2.2.2.1, u10.2.2.2.2.1, u10.2.2.2.2.2.1, u10.2.2.2.2.2.2.1, u10.2.2.2.2.2.2.2.1, ([[(AV.v (.int .i64 u10.2.1))], [(AV.v (.int .i64 y12.1))], [(AV.v (.int .i64 (-1)))]].length : Int), 0, u10.2.2.2.2.2.2.2.2.1, e11.1, y12.2) with | some y85 => (match y85 with | .inl z86 => (ke (.inl z86.2.2.2.2.2.1)) | .inr z87 => (kn (z87.1, z87.2.1, z87.2.2.1, z87.2.2.2.1, z87.2.2.2.2.1, z87.2.2.2.2.2.1, z87.2.2.2.2.2.2.1, (i64 (z87.2.2.2.2.2.2.2.1 + 1)), z87.2.2.2.2.2.2.2.2))) | none => none) | none => none) | none => none) | none => none) else none) | false => (ke (.inr ())))
abbrev zp7 (N : Nat) (x : qL × Int × Int × ByteArray × Int × Int × Int × Int × RT0 × qL × Int) : Option ((Bool) ⊕ (Unit)) := (j7 N).L N x
def zzm (N : Nat) : FSpec where
 X := qL × Int × Int × ByteArray × RT0 × Int × qL
 Y := Bool
 ad := .mk [.ags [.sl 1], .int .i64, .int .i64, .str, .agg RK0, .int .i64, .lst 1] [] rfl
 ret := λ y => qR (AV.v (.bool y))
 t := λ x α k => (match zBs N x.1 with | some y1 => (match (!y1) with | true => (match zwS N () with | some y2 => (k y2) | none => none) | false => (match zz4 N x.2.2.2.2.1 with | some y3 => (match (!y3) with | true => (match zwS N () with | some y4 => (k y4) | none => none) | false => (match (decide ((x.2.2.2.1.size : Int) > 40)) with | true => (match zwS N () with | some y5 => (k y5) | none => none) | false => (match zAB N x.2.2.2.2.2.2 with | some y6 => (match zN N (8, y6) with | some y7 => (match zri N ((i64 (2 + y7.1)), y7.2) with | some y8 => (match zu5 N (y8.1, y8.2.2) with | some y9 => (match zp7 N ([[(AV.list 1 x.1 none)], [(AV.list 1 y8.1 none)], [(AV.list 1 y9.1 none)]], x.2.1, x.2.2.1, x.2.2.2.1, x.2.2.2.2.2.1, y8.2.1, ([[(AV.list 1 x.1 none)], [(AV.list 1 y8.1 none)], [(AV.list 1 y9.1 none)]].length : Int), 0, x.2.2.2.2.1, y9.2) with | some y88 => (match y88 with | .inl z89 => (k z89) | .inr z90 => (match zwS N () with | some y91 => (k y91) | none => none)) | none => none) | none => none) | none => none) | none => none) | none => none))) | none => none)) | none => none)
abbrev zBr (N : Nat) (x : qL × Int × Int × ByteArray × RT0 × Int × qL) : Option (Bool) := (zzm N).d x
def zbq (N : Nat) : List (Nat × LSpec) := [(10, j7 N), (19, j8 N), (28, jg N), (37, jh N), (48, zai N)]
def za3 : Code := Tryz.f3.body.getD .skip
theorem zkU (N : Nat) : zAF (zaa qP) (gam (zuj N)) jb N (zbq N) 48 za3 (zai N) := λ x α kn ke => by kernel_rfl
theorem Jl (N : Nat) : Zb qP jb N (zbq N) 48 (zb 48 za3) :=
 zmP (zc qP) (ZT _) zf jb N (zbq N) 48 za3 (l := []) (by kernel_rfl) an (zai N) rfl (λ s x hc h => by dsimp only [zai] at h; exact zfH hc h (λ _ _ => rfl) rfl rfl rfl) (zkU N) (zai N).par
theorem zkT (N : Nat) : zyA (zaa qP) (gam (zuj N)) jb N (zbq N) 37 za3 (jh N) := λ x α kn ke => by kernel_rfl
theorem zaj (N : Nat) : Zb qP jb N (zbq N) 37 (zb 37 za3) :=
 zmD (zc qP) (ZT _) zf jb N (zbq N) 37 za3 (l := [(48, zb 48 za3)]) (by kernel_rfl) (by kernel_rfl) (al (Jl N) an) (jh N) rfl (λ s x hc h => by dsimp only [jh] at h; exact zfH hc h (λ _ _ => rfl) rfl rfl rfl) (λ _ => rfl) (zkT N) (jh N).par
theorem zkS (N : Nat) : zyA (zaa qP) (gam (zuj N)) jb N (zbq N) 28 za3 (jg N) := λ x α kn ke => by kernel_rfl
theorem zbS (N : Nat) : Zb qP jb N (zbq N) 28 (zb 28 za3) :=
 zmD (zc qP) (ZT _) zf jb N (zbq N) 28 za3 (l := [(37, zb 37 za3), (48, zb 48 za3)]) (by kernel_rfl) (by kernel_rfl) (al (zaj N) (al (Jl N) an)) (jg N) rfl (λ s x hc h => by dsimp only [jg] at h; exact zfH hc h (λ _ _ => rfl) rfl rfl rfl) (λ _ => rfl) (zkS N) (jg N).par
theorem zeU (N : Nat) : Zb qP jb N (zbq N) 19 (zb 19 za3) :=
 zC (zc qP) zf (zuj N) (l := [(28, zb 28 za3), (37, zb 37 za3), (48, zb 48 za3)]) (al (zbS N) (al (zaj N) (al (Jl N) an))) (j8 N)
theorem zkV (N : Nat) : Zb qP jb N (zbq N) 10 (zb 10 za3) :=
 zC (zc qP) zf (zuj N) (l := [(19, zb 19 za3), (28, zb 28 za3), (37, zb 37 za3), (48, zb 48 za3)]) (al (zeU N) (al (zbS N) (al (zaj N) (al (Jl N) an)))) (j7 N)
def F3_e (N : Nat) : Ent qP := zK (zc qP) zf (zuj N) 3 Tryz.f3 Tryz.func3 jb N (zbq N) (l := [(10, zb 10 za3), (19, zb 19 za3), (28, zb 28 za3), (37, zb 37 za3), (48, zb 48 za3)]) (al (zkV N) (al (zeU N) (al (zbS N) (al (zaj N) (al (Jl N) an))))) (zzm N)
end
end
end Go.Proofs.YthdgnfcbehcplaaGreatDoor
