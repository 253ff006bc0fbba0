/- Several texts as one (written by pack.py). -/
import Derived.Test.YthdgnfcbehcplaaGreatDoorCpD
set_option linter.unusedVariables false
set_option linter.unusedSimpArgs false
set_option linter.unnecessarySimpa false
namespace Go.Proofs.YthdgnfcbehcplaaGreatDoor
section
theorem zy7 (A B : List (List AV)) (P Q : List RT1) (i : Nat) (hi : i < P.length) (hA : A = P.map zh) (hB : B = Q.map zh) (hQ : Q.length <= 500) : ∀ (d k f : Nat), k + d = Q.length -> d < f -> ∃ y, (Zw 600).L f (A, B, (i : Int), (k : Int)) = some y /\ ((P[i] ∈ Q.drop k /\ y = .inl (A, B, true, (i : Int))) \/ (P[i] ∉ Q.drop k /\ y = .inr (A, B, (i : Int)))) := by
 subst hA hB
 intro d
 induction d with
 | zero =>
  intro k f hk hf
  obtain ⟨f, rfl⟩ := pS hf
  refine ⟨_, ?_, .inr ⟨by rw [List.drop_eq_nil_of_le (by omega)]; simp, rfl⟩⟩
  show (Zw 600).b _ _ ((Zw 600).L f) some = _
  simp only [Zw]
  have e2 := ltF k Q.length (by omega)
  simp only [List.length_map, e2]
 | succ d ih =>
  intro k f hk hf
  obtain ⟨f, rfl⟩ := pS hf
  have hkl : k < Q.length := by omega
  have e2 := ltT k Q.length (by omega)
  have e3 := nnI k
  have e4 := nnI i
  by_cases hc : P[i] = Q[k]
  ·refine ⟨_, ?_, .inl ⟨(zA hkl _).2 (.inl hc), rfl⟩⟩
   show (Zw 600).b _ _ ((Zw 600).L f) some = _
   simp only [Zw]
   have e5 : eqP P[i] Q[k] = true := by rw [hc]; exact Jf _
   simp only [List.length_map, e2, e3, e4, if_true, Int.toNat_natCast, zae Q k hkl, zae P i hi, zI, e5]
  ·obtain ⟨y, r1, r2⟩ := ih (k + 1) f (by omega) (by omega)
   refine ⟨y, ?_, ?_⟩
   ·show (Zw 600).b _ _ ((Zw 600).L f) some = _
    generalize (Zw 600).L f = Lf at r1 |-
    simp only [Zw]
    have e5 : eqP P[i] Q[k] = false := JM hc
    simp only [List.length_map, e2, e3, e4, if_true, Int.toNat_natCast, zae Q k hkl, zae P i hi, zI, e5, Zk k (by omega)]
    exact r1
   ·rcases r2 with ⟨h1, h2⟩ | ⟨h1, h2⟩
    ·exact .inl ⟨(zA hkl _).2 (.inr h1), h2⟩
    ·exact .inr ⟨λ h => ((zA hkl _).1 h).elim hc h1, h2⟩
theorem zuu (P Q : List RT1) (hP : P.length <= 500) (hQ : Q.length <= 500) : ∀ (d k f : Nat), k + d = P.length -> d < f -> ∃ y, (Z3 600).L f (P.map zh, Q.map zh, (k : Int)) = some y /\ ((Com (P.drop k) Q /\ y = .inl true) \/ (¬ Com (P.drop k) Q /\ y = .inr ())) := by
 intro d
 induction d with
 | zero =>
  intro k f hk hf
  obtain ⟨f, rfl⟩ := pS hf
  refine ⟨_, ?_, .inr ⟨by (rw [List.drop_eq_nil_of_le (by omega)]; rintro ⟨p, h, -⟩; cases h), rfl⟩⟩
  show (Z3 600).b _ _ ((Z3 600).L f) some = _
  simp only [Z3]
  have e2 := ltF k P.length (by omega)
  simp only [List.length_map, e2]
 | succ d ih =>
  intro k f hk hf
  obtain ⟨f, rfl⟩ := pS hf
  have hkl : k < P.length := by omega
  have e2 := ltT k P.length (by omega)
  obtain ⟨z, q1, q2⟩ := zy7 _ _ P Q k hkl rfl rfl hQ Q.length 0 600 (by omega) (by omega)
  replace q1 : (Zw 600).L 600 (P.map zh, Q.map zh, (k : Int), 0) = some z := q1
  rw [List.drop_zero] at q2
  rcases q2 with ⟨g1, rfl⟩ | ⟨g1, rfl⟩
  ·refine ⟨_, ?_, .inl ⟨⟨P[k], (zA hkl _).2 (.inl rfl), g1⟩, rfl⟩⟩
   show (Z3 600).b _ _ ((Z3 600).L f) some = _
   simp only [Z3]
   simp only [List.length_map, e2, zg5, q1]
  ·obtain ⟨y, r1, r2⟩ := ih (k + 1) f (by omega) (by omega)
   refine ⟨y, ?_, ?_⟩
   ·show (Z3 600).b _ _ ((Z3 600).L f) some = _
    generalize (Z3 600).L f = Lf at r1 |-
    simp only [Z3]
    simp only [List.length_map, e2, zg5, q1, Zk k (by omega)]
    exact r1
   ·rcases r2 with ⟨⟨p, h1, h2⟩, h3⟩ | ⟨h1, h2⟩
    ·exact .inl ⟨⟨p, (zA hkl _).2 (.inr h1), h2⟩, h3⟩
    ·refine .inr ⟨λ ⟨p, h, h'⟩ => ?_, h2⟩
     rcases (zA hkl _).1 h with e | e
     ·subst e; exact g1 h'
     ·exact h1 ⟨p, e, h'⟩
theorem zy6 (P Q : List RT1) (hP : P.length <= 500) (hQ : Q.length <= 500) : ∃ b, zo7 600 (P.map zh, Q.map zh) = some b /\ (b = true ↔ Com P Q) := by
 obtain ⟨y, h1, h2⟩ := zuu P Q hP hQ P.length 0 600 (by omega) (by omega)
 replace h1 : (Z3 600).L 600 (P.map zh, Q.map zh, 0) = some y := h1
 rw [List.drop_zero] at h2
 simp only [zo7, FSpec.d, ztM, zrC, h1]
 rcases h2 with ⟨h2, rfl⟩ | ⟨h2, rfl⟩
 ·exact ⟨_, rfl, by simp [h2]⟩
 ·exact ⟨_, rfl, by simp [h2]⟩
theorem zCB (P Q : List RT1) (hP : P.length <= 500) (hQ : Q.length <= 500) : ∃ b, zmM 600 (P.map zh, Q.map zh) = some b /\ (b = true ↔ Com P Q) := by
 have h : zmM 600 (P.map zh, Q.map zh) = zo7 600 (P.map zh, Q.map zh) := by kernel_rfl
 rw [h]
 exact zy6 P Q hP hQ
end
section
theorem pk0 (e : RT0) : (((zl e).drop 9).drop 0)[0]? = some (AV.list 9 (pkE e) none) := rfl
theorem zCV (xs : List (List AV)) : Zf 9 (AV.list 9 xs none) = some xs := by simp [Zf]
end
section
theorem zpj : zAr 600 () = some true := by kernel_rfl
@[reducible] def kdV (v : RT7) : Int := v.1
@[reducible] def atV (v : RT7) : Int := v.2.1
@[reducible] def byV (v : RT7) : ByteArray := v.2.2.1
@[reducible] def inV (v : RT7) : Int := v.2.2.2.1
@[reducible] def evV (v : RT7) : RT0 := v.2.2.2.2
def zqg (x : List RT7) : List AV := [AV.list 29 (x.map zo) none]
def zj (C : qC) : List (List AV) := C.map zqg
theorem zq (C : qC) : (zj C).length = C.length := by simp [zj]
theorem zC (C : qC) (k : Nat) (h : k < C.length) : (zj C)[k]? = some (zqg C[k]) := by simp [zj, h]
theorem zhK (x : List RT7) : zbr (zqg x) = some (x.map zo, ()) := by
 show dec RK6 [AV.list 29 (x.map zo) none] = _
 simp only [dec, zno, Zf, if_true]
theorem zc1 (x : List RT7) : ((zqg x).drop 0)[0]? = some (AV.list 29 (x.map zo) none) := rfl
theorem zgn (xs : List (List AV)) : Zf 29 (AV.list 29 xs none) = some xs := by simp [Zf]
theorem zbi (P : List RT7) (k : Nat) (h : k < P.length) : (P.map zo)[k]? = some (zo P[k]) := by simp [h]
theorem rd7 (v : RT7) : zfw (zo v) = some v := zud v
def ann : ByteArray := ⟨#[97, 110, 110]⟩
def bob : ByteArray := ⟨#[98, 111, 98]⟩
def nob : ByteArray := ⟨#[]⟩
def Per (b : ByteArray) : Prop := zdl b = true
def JY (k : Int) : Bool := k == 1 || (k == 2 || k == 6)
def jc (k : Int) : Bool := k == 1 || (k == 3 || k == 6)
def zvN (k u : Int) : Bool := if k = 1 then JY u else if k = 2 then (u == 1 || u == 6) else if k = 6 then !(JY u) else true
def zcR (k : Int) : Bool := k != 1 && k != 3
theorem znW (N : Nat) (v : RT7) : zg4 N v = some (JY (kdV v)) := by
 simp only [zg4, FSpec.d, ztD, JY]
 cases v.1 == 1 <;> cases v.1 == 2 <;> cases v.1 == 6 <;> rfl
theorem zoi (N : Nat) (v : RT7) : zo4 N v = some (jc (kdV v)) := by
 simp only [zo4, FSpec.d, ztz, jc]
 cases v.1 == 1 <;> cases v.1 == 3 <;> cases v.1 == 6 <;> rfl
theorem zCN (N : Nat) (v u : RT7) : zg9 N (v, u) = some (zvN (kdV v) (kdV u)) := by
 simp only [zg9, FSpec.d, zt5, zvN, znW]
 by_cases h1 : v.1 = 1
 ·simp [h1]
 ·by_cases h2 : v.1 = 2
  ·simp [h2]
   cases u.1 == 1 <;> simp
  ·by_cases h6 : v.1 = 6
   ·simp [h6]
   ·have e1 : (v.1 == 1) = false := by simpa using h1
    have e2 : (v.1 == 2) = false := by simpa using h2
    have e6 : (v.1 == 6) = false := by simpa using h6
    simp only [e1, e2, e6, if_neg h1, if_neg h2, if_neg h6]
theorem zr8 (N : Nat) (k : Int) : zfS N k = some (zcR k) := by
 simp only [zfS, FSpec.d, ztV, zcR]
 cases k != 1 <;> simp
def Kd6 (k : Int) : Prop := k = 1 \/ k = 2 \/ k = 3 \/ k = 4 \/ k = 5 \/ k = 6
theorem zzD {k : Int} (h : Kd6 k) : zoZ 600 k = some (JY k) := by
 rcases h with rfl | rfl | rfl | rfl | rfl | rfl <;> kernel_rfl
theorem zqx {k : Int} (h : Kd6 k) : ((gtab3.map AV.v).drop (k.toNat * 1))[0]? = some (.v (.bool (k == 1 || k == 2))) := by
 rcases h with rfl | rfl | rfl | rfl | rfl | rfl <;> kernel_rfl
theorem zqy {k : Int} (h : Kd6 k) : ((gtab2.map AV.v).drop (k.toNat * 1))[0]? = some (.v (.bool (zcR k))) := by
 rcases h with rfl | rfl | rfl | rfl | rfl | rfl <;> kernel_rfl
theorem zjj {k : Int} (h : Kd6 k) : ((gtab0.map AV.v).drop (k.toNat * 1))[0]? = some (.v (.bool (jc k))) := by
 rcases h with rfl | rfl | rfl | rfl | rfl | rfl <;> kernel_rfl
theorem zvw {k u : Int} (h : Kd6 k) (hu : Kd6 u) : (((gtab1.map AV.v).drop (k.toNat * 7)).drop (u.toNat * 1))[0]? = some (.v (.bool (zvN k u))) := by
 rcases h with rfl | rfl | rfl | rfl | rfl | rfl <;> rcases hu with rfl | rfl | rfl | rfl | rfl | rfl <;> kernel_rfl
theorem Kd6.lt {k : Int} (h : Kd6 k) : 0 <= k /\ k < 7 /\ 1 <= k /\ k <= 6 := by unfold Kd6 at h; omega
def EvN (e : RT0) : Prop := ∃ n, n < 5 /\ EvAt n e
theorem Evs.evn {E : List RT0} {m : Nat} (hm : m <= 5) (h : Evs 0 m E) : ∀ e ∈ E, EvN e := λ e he => by
 obtain ⟨n, _, h2, h3⟩ := h.all e he
 exact ⟨n, by omega, h3⟩
end
section
theorem zjf {P Q : List RT1} (h : P.map zh = Q.map zh) : P = Q := by
 have hi : ∀ a b : RT1, zh a = zh b -> a = b := λ a b h => by
  have := congrArg jk h
  rw [zI, zI] at this
  exact Option.some.inj this
 induction P generalizing Q with
 | nil => cases Q with
  | nil => rfl
  | cons q Q => cases h
 | cons p P ih => cases Q with
  | nil => cases h
  | cons q Q =>
   simp only [List.map_cons, List.cons.injEq] at h
   rw [hi p q h.1, ih h.2]
theorem zr2 {a e : RT0} (h1 : nmE a = nmE e) (h2 : zu a = zu e) : a = e := by
 have e1 : ∀ x : RT0, x = ((nmE x).1, (nmE x).2.1, (nmE x).2.2.1, (nmE x).2.2.2.1, (nmE x).2.2.2.2.1, (nmE x).2.2.2.2.2.1, (nmE x).2.2.2.2.2.2.1, (nmE x).2.2.2.2.2.2.2.1, (nmE x).2.2.2.2.2.2.2.2.1, zu x) := λ x => rfl
 rw [e1 a, e1 e, h1, h2]
theorem zvk (P Q : List RT1) (hl : P.length = Q.length) (hP : P.length <= 500) : ∀ (d k f : Nat), k + d = P.length -> d < f -> ∃ y, (Z2 600).L f (P.map zh, Q.map zh, (k : Int)) = some y /\ ((P.drop k = Q.drop k /\ y = .inr ()) \/ (P.drop k ≠ Q.drop k /\ y = .inl false)) := by
 intro d
 induction d with
 | zero =>
  intro k f hk hf
  obtain ⟨f, rfl⟩ := pS hf
  refine ⟨_, ?_, .inl ⟨by rw [List.drop_eq_nil_of_le (by omega), List.drop_eq_nil_of_le (by omega)], rfl⟩⟩
  show (Z2 600).b _ _ ((Z2 600).L f) some = _
  simp only [Z2]
  have e2 := ltF k P.length (by omega)
  simp only [List.length_map, e2]
 | succ d ih =>
  intro k f hk hf
  obtain ⟨f, rfl⟩ := pS hf
  have hkl : k < P.length := by omega
  have hkq : k < Q.length := by omega
  have e2 := ltT k P.length (by omega)
  have h0 := nnI k
  have dP := List.drop_eq_getElem_cons hkl
  have dQ := List.drop_eq_getElem_cons hkq
  by_cases he : P[k] = Q[k]
  ·obtain ⟨y, r1, r2⟩ := ih (k + 1) f (by omega) (by omega)
   refine ⟨y, ?_, ?_⟩
   ·show (Z2 600).b _ _ ((Z2 600).L f) some = _
    generalize (Z2 600).L f = Lf at r1 |-
    simp only [Z2]
    have ee := Jf P[k]
    simp only [eqP] at ee
    simp only [List.length_map, e2, h0, if_true, Int.toNat_natCast, zae P k hkl, zae Q k hkq, zI, <- he, ee, Bool.not_true, Zk k (by omega)]
    exact r1
   ·rw [dP, dQ, he]
    rcases r2 with ⟨a, b⟩ | ⟨a, b⟩
    ·exact .inl ⟨by rw [a], b⟩
    ·exact .inr ⟨λ e => a (by injection e), b⟩
  ·refine ⟨_, ?_, .inr ⟨λ e => he (by rw [dP, dQ] at e; injection e), rfl⟩⟩
   show (Z2 600).b _ _ ((Z2 600).L f) some = _
   simp only [Z2]
   have ee := JM he
   simp only [eqP] at ee
   simp only [List.length_map, e2, h0, if_true, Int.toNat_natCast, zae P k hkl, zae Q k hkq, zI, ee, Bool.not_false]
theorem zzW (P Q : List RT1) (hP : P.length <= 500) (hQ : Q.length <= 500) : ∃ b, zjU 600 (P.map zh, Q.map zh) = some b /\ (b = true ↔ P = Q) := by
 simp only [zjU, FSpec.d, ztG, List.length_map]
 by_cases hl : P.length = Q.length
 ·have e1 : ((P.length : Int) != (Q.length : Int)) = false := by simp [hl]
  obtain ⟨y, h1, h2⟩ := zvk P Q hl hP P.length 0 600 (by omega) (by omega)
  replace h1 : (Z2 600).L 600 (P.map zh, Q.map zh, 0) = some y := h1
  simp only [e1, zrz, h1]
  rw [List.drop_zero, List.drop_zero] at h2
  rcases h2 with ⟨a, rfl⟩ | ⟨a, rfl⟩
  ·exact ⟨_, rfl, by simp [a]⟩
  ·exact ⟨_, rfl, by simp [a]⟩
 ·have e1 : ((P.length : Int) != (Q.length : Int)) = true := by simp; omega
  have : P ≠ Q := λ e => hl (by rw [e])
  simp only [e1]
  exact ⟨_, rfl, by simp [this]⟩
theorem zva (P Q : List RT1) (hl : P.length = Q.length) (hP : P.length <= 500) : ∀ (d k f : Nat), k + d = P.length -> d < f -> ∃ y, (Zt 600).L f (P.map zh, Q.map zh, (P.length : Int), (k : Int)) = some y /\ ((P.drop k = Q.drop k /\ y = .inr ()) \/ (P.drop k ≠ Q.drop k /\ y = .inl false)) := by
 intro d
 induction d with
 | zero =>
  intro k f hk hf
  obtain ⟨f, rfl⟩ := pS hf
  refine ⟨_, ?_, .inl ⟨by rw [List.drop_eq_nil_of_le (by omega), List.drop_eq_nil_of_le (by omega)], rfl⟩⟩
  show (Zt 600).b _ _ ((Zt 600).L f) some = _
  simp only [Zt]
  have e2 := ltF k P.length (by omega)
  simp only [List.length_map, e2]
 | succ d ih =>
  intro k f hk hf
  obtain ⟨f, rfl⟩ := pS hf
  have hkl : k < P.length := by omega
  have hkq : k < Q.length := by omega
  have e2 := ltT k P.length (by omega)
  have h0 := nnI k
  have dP := List.drop_eq_getElem_cons hkl
  have dQ := List.drop_eq_getElem_cons hkq
  by_cases he : P[k] = Q[k]
  ·obtain ⟨y, r1, r2⟩ := ih (k + 1) f (by omega) (by omega)
   refine ⟨y, ?_, ?_⟩
   ·show (Zt 600).b _ _ ((Zt 600).L f) some = _
    generalize (Zt 600).L f = Lf at r1 |-
    simp only [Zt]
    have ee := Jf P[k]
    simp only [eqP] at ee
    simp only [List.length_map, e2, h0, if_true, Int.toNat_natCast, zae P k hkl, zae Q k hkq, zI, <- he, ee, Bool.not_true, Zk k (by omega)]
    exact r1
   ·rw [dP, dQ, he]
    rcases r2 with ⟨a, b⟩ | ⟨a, b⟩
    ·exact .inl ⟨by rw [a], b⟩
    ·exact .inr ⟨λ e => a (by injection e), b⟩
  ·refine ⟨_, ?_, .inr ⟨λ e => he (by rw [dP, dQ] at e; injection e), rfl⟩⟩
   show (Zt 600).b _ _ ((Zt 600).L f) some = _
   simp only [Zt]
   have ee := JM he
   simp only [eqP] at ee
   simp only [List.length_map, e2, h0, if_true, Int.toNat_natCast, zae P k hkl, zae Q k hkq, zI, ee, Bool.not_false]
theorem zCW (P Q : List RT1) (hP : P.length <= 500) (hQ : Q.length <= 500) : ∃ b, zfE 600 (P.map zh, Q.map zh) = some b /\ (b = true ↔ P = Q) := by
 simp only [zfE, FSpec.d, zk9, List.length_map]
 by_cases hl : P.length = Q.length
 ·have e1 : ((P.length : Int) != (Q.length : Int)) = false := by simp [hl]
  obtain ⟨y, h1, h2⟩ := zva P Q hl hP P.length 0 600 (by omega) (by omega)
  replace h1 : (Zt 600).L 600 (P.map zh, Q.map zh, (P.length : Int), 0) = some y := h1
  simp only [e1, zk7, h1]
  rw [List.drop_zero, List.drop_zero] at h2
  rcases h2 with ⟨a, rfl⟩ | ⟨a, rfl⟩
  ·exact ⟨_, rfl, by simp [a]⟩
  ·exact ⟨_, rfl, by simp [a]⟩
 ·have e1 : ((P.length : Int) != (Q.length : Int)) = true := by simp; omega
  have : P ≠ Q := λ e => hl (by rw [e])
  simp only [e1]
  exact ⟨_, rfl, by simp [this]⟩
theorem zje (a e : RT0) (ha : jj a) (he : jj e) : ∃ b, zo1 600 (zu a, zu e) = some b /\ (b = true ↔ (zu a) = (zu e)) := by
 obtain ⟨P, hP1, hP⟩ := ha
 obtain ⟨Q, hQ1, hQ⟩ := he
 obtain ⟨b, h1, h2⟩ := zzW P Q (by omega) (by omega)
 have h3 : zjU 600 ((zu a).1, (zu e).1) = some b := by
  show zjU 600 (pkE a, pkE e) = some b
  rw [hP, hQ]; exact h1
 have hpq : (zu a).1 = (zu e).1 ↔ P = Q := by
  show pkE a = pkE e ↔ P = Q
  rw [hP, hQ]
  exact ⟨λ h => zjf h, λ h => by rw [h]⟩
 generalize zu a = A at *
 generalize zu e = E at *
 simp only [zo1, FSpec.d, ztn, h3]
 cases b with
 | false => exact ⟨_, rfl, by
   constructor
   ·intro h; cases h
   ·intro h; exact absurd (h2.2 (hpq.1 (by rw [h]))) (by simp)⟩
 | true =>
  have hpe : A.1 = E.1 := hpq.2 (h2.1 rfl)
  simp only
  split
  ·rename_i c1
   split
   ·rename_i c2
    refine ⟨_, rfl, ⟨λ h => ?_, λ h => (by rw [h]; simp)⟩⟩
    simp only [Bool.and_eq_true, beq_iff_eq, and_true] at c1 c2 h
    simp [Prod.ext_iff, *]
   ·rename_i c2
    refine ⟨_, rfl, ⟨λ h => (by cases h), λ h => ?_⟩⟩
    rw [h] at c2; simp at c2
  ·rename_i c1
   refine ⟨_, rfl, ⟨λ h => (by cases h), λ h => ?_⟩⟩
   rw [h] at c1; simp at c1
theorem zhH (a e : RT0) (ha : jj a) (he : jj e) : ∃ b, zb3 600 (a, e) = some b /\ (b = true ↔ a = e) := by
 obtain ⟨b, h1, h2⟩ := zje a e ha he
 simp only [zb3, FSpec.d, ztf, h1]
 have hae : a = e ↔ nmE a = nmE e /\ zu a = zu e := ⟨λ h => by rw [h]; exact ⟨rfl, rfl⟩, λ ⟨x, y⟩ => zr2 x y⟩
 by_cases hn : nmE a = nmE e
 ·have ee := (congrArg (eqP (nmE a)) hn).symm.trans (Jf (nmE a))
  simp only [eqP] at ee
  simp only [ee]
  exact ⟨b, rfl, by rw [h2, hae]; exact ⟨λ h => ⟨hn, h⟩, λ h => h.2⟩⟩
 ·have ee := JM hn
  simp only [eqP] at ee
  simp only [ee]
  exact ⟨_, rfl, by rw [hae]; simp [hn]⟩
theorem zp6 (a e : RT0) (ha : jj a) (he : jj e) : ∃ b, zkT 600 (zu a, zu e) = some b /\ (b = true ↔ (zu a) = (zu e)) := by
 obtain ⟨P, hP1, hP⟩ := ha
 obtain ⟨Q, hQ1, hQ⟩ := he
 obtain ⟨b, h1, h2⟩ := zCW P Q (by omega) (by omega)
 have h3 : zfE 600 ((zu a).1, (zu e).1) = some b := by
  show zfE 600 (pkE a, pkE e) = some b
  rw [hP, hQ]; exact h1
 have hpq : (zu a).1 = (zu e).1 ↔ P = Q := by
  show pkE a = pkE e ↔ P = Q
  rw [hP, hQ]
  exact ⟨λ h => zjf h, λ h => by rw [h]⟩
 generalize zu a = A at *
 generalize zu e = E at *
 simp only [zkT, FSpec.d, zkU, h3]
 cases b with
 | false => exact ⟨_, rfl, by
   constructor
   ·intro h; cases h
   ·intro h; exact absurd (h2.2 (hpq.1 (by rw [h]))) (by simp)⟩
 | true =>
  have hpe : A.1 = E.1 := hpq.2 (h2.1 rfl)
  simp only
  split
  ·rename_i c1
   split
   ·rename_i c2
    refine ⟨_, rfl, ⟨λ h => ?_, λ h => (by rw [h]; simp)⟩⟩
    simp only [Bool.and_eq_true, beq_iff_eq, and_true] at c1 c2 h
    simp [Prod.ext_iff, *]
   ·rename_i c2
    refine ⟨_, rfl, ⟨λ h => (by cases h), λ h => ?_⟩⟩
    rw [h] at c2; simp at c2
  ·rename_i c1
   refine ⟨_, rfl, ⟨λ h => (by cases h), λ h => ?_⟩⟩
   rw [h] at c1; simp at c1
theorem zvb (a e : RT0) (ha : jj a) (he : jj e) : ∃ b, zkR 600 (a, e) = some b /\ (b = true ↔ a = e) := by
 obtain ⟨b, h1, h2⟩ := zp6 a e ha he
 simp only [zkR, FSpec.d, zkS, h1]
 have hae : a = e ↔ nmE a = nmE e /\ zu a = zu e := ⟨λ h => by rw [h]; exact ⟨rfl, rfl⟩, λ ⟨x, y⟩ => zr2 x y⟩
 by_cases hn : nmE a = nmE e
 ·have ee := (congrArg (eqP (nmE a)) hn).symm.trans (Jf (nmE a))
  simp only [eqP] at ee
  simp only [ee]
  exact ⟨b, rfl, by rw [h2, hae]; exact ⟨λ h => ⟨hn, h⟩, λ h => h.2⟩⟩
 ·have ee := JM hn
  simp only [eqP] at ee
  simp only [ee]
  exact ⟨_, rfl, by rw [hae]; simp [hn]⟩
theorem ze0 (a e : RT0) (ha : jj a) (he : jj e) : ∃ b, zfO 600 (a, e) = some b /\ (b = true ↔ a = e) := by
 obtain ⟨b, h1, h2⟩ := zvb a e ha he
 have hL : zgL 600 ([zl e], [zl a], 1, 0) = some (bif b then .inr () else .inl false) := by
  show (jo 600).b _ _ ((jo 600).L 599) some = _
  have e1 : decide ((0 : Int) < 1) = true := by decide
  have e3 : i64 (0 + 1) = 1 := by decide
  obtain ⟨Lf, hLf⟩ : ∃ Lf, Lf = (jo 600).L 599 := ⟨_, rfl⟩
  have hz : Lf ([zl e], [zl a], 1, 1) = some (.inr ()) := by
   rw [hLf]
   show (jo 600).b _ _ ((jo 600).L 598) some = _
   simp only [jo]
   have e2 : decide ((1 : Int) < 1) = false := by decide
   simp only [e2]
  rw [<- hLf]
  simp only [jo]
  simp only [e1, Int.le_refl, if_true, Int.toNat_zero, List.getElem?_cons_zero, Zh, h1]
  cases b with
  | true => simp only [Bool.not_true, e3, hz]; rfl
  | false => simp only [Bool.not_false]; rfl
 refine ⟨b, ?_, h2⟩
 simp only [zfO, FSpec.d, ztj, zyy, zt3, zqN, zkQ, List.length_cons, List.length_nil]
 have e0 : (((0 + 1 : Nat) : Int) != ((0 + 1 : Nat) : Int)) = false := by decide
 simp only [e0]
 have hL' : zgL 600 ([zl e], [zl a], ((0 + 1 : Nat) : Int), 0) = some (bif b then .inr () else .inl false) := hL
 simp only [hL']
 cases b <;> rfl
theorem EvN.pk {e : RT0} (h : EvN e) : jj e := by
 obtain ⟨n, _, h⟩ := h
 exact h.pk
end
section
structure EvG (e : RT0) : Prop where
 rv : zaF 600 [zl e] = some true
 pv : zg2 600 [zl e] = some true
 pk : jj e
structure VG (T : Int) (n i : Nat) (v : RT7) : Prop where
 kd : Kd6 (kdV v)
 at0 : 0 <= atV v
 atT : atV v <= T
 by1 : (kdV v = 1 \/ kdV v = 2) -> byV v = nob
 by2 : ¬ (kdV v = 1 \/ kdV v = 2) -> Per (byV v)
 in1 : kdV v ≠ 5 -> inV v = 0
 in2 : kdV v = 5 -> 0 <= inV v /\ inV v < n /\ inV v ≠ i
 ev : EvG (evV v)
def Stp (u v : RT7) : Prop := atV u <= atV v /\ zvN (kdV v) (kdV u) = true /\ (zcR (kdV v) = true -> evV u = evV v)
structure XG (T : Int) (n i m : Nat) (x : List RT7) : Prop where
 ne : x ≠ []
 hd : ∀ h : 0 < x.length, kdV x[0] = 1
 vs : ∀ k (h : k < x.length), VG T n i x[k]
 st : ∀ k (h : k + 1 < x.length), Stp x[k] x[k + 1]
 le : x.length <= m
structure CG (T : Int) (m e : Nat) (C : qC) : Prop where
 xs : ∀ k (h : k < C.length), XG T C.length k m C[k]
 le : C.length <= e
theorem XG.pos {T : Int} {n i m : Nat} {x : List RT7} (h : XG T n i m x) : 0 < x.length := List.length_pos_iff.2 h.ne
end
section
theorem rd6 (x : List RT7) : zbr (zqg x) = some (x.map zo, ()) := zhK x
theorem zcS (x : List RT7) (h : x ≠ []) (hl : x.length <= 1000) : zdd 600 (x.map zo) = some (x.getLast h) := by
 have hp := List.length_pos_iff.2 h
 have e1 : i64 ((x.length : Int) - 1) = ((x.length - 1 : Nat) : Int) := by rw [zW (by omega)]; omega
 have h0 : 0 <= ((x.length - 1 : Nat) : Int) := by omega
 simp only [zdd, FSpec.d, ztA, List.length_map, e1, h0, if_true, Int.toNat_natCast, zbi x (x.length - 1) (by omega), rd7]
 rw [List.getLast_eq_getElem]
theorem zi1 (x : List RT7) (h : x ≠ []) (hl : x.length <= 1000) : zjR 600 (x.map zo) = some (x.getLast h) := zcS x h hl
theorem XG.last {T : Int} {n i m : Nat} {x : List RT7} (h : XG T n i m x) : VG T n i (x.getLast h.ne) := by
 rw [List.getLast_eq_getElem]
 exact h.vs _ _
def FC (D : qC) (k : Nat) (cs : List AV) : Prop := cs.length = D.length /\ ∀ i (h : i < D.length), ∃ t, cs[i]? = some (AV.list 29 (D[i].map zo) t) /\ (t = none \/ t = some (TOB + i)) /\ (k <= i -> t = some (TOB + i))
theorem FC.nil : FC [] 0 [] := ⟨rfl, λ i h => by simp at h⟩
theorem FC.to {D : qC} {k l : Nat} {cs : List AV} (h : FC D k cs) (hl : k <= l) : FC D l cs :=
 ⟨h.1, λ i hi => by obtain ⟨t, h1, h2, h3⟩ := h.2 i hi; exact ⟨t, h1, h2, λ e => h3 (by omega)⟩⟩
theorem FC.mp {D : qC} {k : Nat} {cs : List AV} (h : FC D k cs) (g : AV -> AV) (hg : ∀ i xs t, i < D.length -> t = none \/ t = some (TOB + i) -> g (AV.list 29 xs t) = AV.list 29 xs t) : cs.map g = cs := by
 refine List.ext_getElem (by simp) λ i h1 h2 => ?_
 have hi : i < D.length := by rw [<- h.1]; exact h2
 obtain ⟨t, e1, e2, _⟩ := h.2 i hi
 rw [List.getElem?_eq_getElem h2] at e1
 rw [List.getElem_map, Option.some.inj e1, hg i _ t hi e2]
theorem FC.dF {D : qC} {k : Nat} {cs : List AV} (h : FC D k cs) : cs.map datF = cs := h.mp datF λ i xs t _ ht => by
 rcases ht with rfl | rfl
 ·rfl
 ·have : Nat.ble TOB (TOB + i) = true := Nat.ble_eq_true_of_le (by omega)
  simp only [datF, this, cond_true]
theorem FC.dJ {D : qC} {k : Nat} {cs : List AV} (h : FC D k cs) : cs.map (datJ 0 D.length) = cs := h.mp _ λ i xs t hi ht => by
 rcases ht with rfl | rfl
 ·rfl
 ·have : Nat.ble (TOB + 0) (TOB + i) = true := Nat.ble_eq_true_of_le (by omega)
  have h2 : Nat.ble (TOB + D.length) (TOB + i) = false := by
   cases hb : Nat.ble (TOB + D.length) (TOB + i) with
   | false => rfl
   | true => have := Nat.le_of_ble_eq_true hb; omega
  simp only [datJ, this, h2, Bool.not_false, Bool.and_self, cond_true]
def jw (D : qC) : List AV := D.map λ x => AV.list 29 (x.map zo) none
theorem zbC (D : qC) : (jw D).length = D.length := by simp [jw]
theorem FC.d0 {D : qC} {k : Nat} {cs : List AV} (h : FC D k cs) : cs.map dat0 = jw D := by
 refine List.ext_getElem (by simp [jw, h.1]) λ i h1 h2 => ?_
 have hi : i < D.length := by simpa [jw] using h2
 have h3 : i < cs.length := by rw [h.1]; exact hi
 obtain ⟨t, e1, e2, _⟩ := h.2 i hi
 rw [List.getElem?_eq_getElem h3] at e1
 rw [List.getElem_map, Option.some.inj e1]
 simp only [jw, List.getElem_map]
 rcases e2 with rfl | rfl <;> rfl
theorem Ja (D : qC) : (jw D).map dat0 = jw D := by
 simp only [jw, List.map_map]; rfl
theorem zpu (C D : qC) : jw C ++ jw D = jw (C ++ D) := by simp [jw]
theorem zcA : ∀ (D : qC), zp (jw D) 1 D.length = zj D
 | [] => rfl
 | x :: D => by
  show _ :: _ = _ :: _
  congr 1
  exact zcA D
theorem zea (D : qC) : zp ((jw D).take (D.length * 1)) 1 D.length = zj D := by
 rw [Nat.mul_one, List.take_of_length_le (by simp [jw]), zcA]
theorem FC.set {D : qC} {k : Nat} {cs : List AV} (h : FC D k cs) (hk : k < D.length) (y : List RT7) {q : Nat} (hq : q < TOB) : FC (D.set k y) (k + 1) ((splice cs k [AV.list 29 (y.map zo) (some q)]).map datF) := by
 refine ⟨by simp [splice, h.1], λ i hi => ?_⟩
 simp at hi
 have h3 : i < cs.length := by rw [h.1]; exact hi
 obtain ⟨t, e1, e2, e3⟩ := h.2 i hi
 rw [List.getElem?_eq_getElem h3] at e1
 by_cases e : k = i
 ·subst e
  refine ⟨none, ?_, .inl rfl, λ e => by omega⟩
  have : Nat.ble TOB q = false := by
   cases hb : Nat.ble TOB q with
   | false => rfl
   | true => have := Nat.le_of_ble_eq_true hb; omega
  show ((cs.set k _).map _)[k]? = _
  rw [List.getElem?_map, List.getElem?_set_self h3, List.getElem_set_self]
  simp only [Option.map, datF, this, cond_false]
 ·refine ⟨t, ?_, e2, λ e' => e3 (by omega)⟩
  show ((cs.set k _).map _)[i]? = _
  rw [List.getElem?_map, List.getElem?_set_ne e, List.getElem?_eq_getElem h3, List.getElem_set_ne e, Option.some.inj e1]
  rcases e2 with rfl | rfl
  ·rfl
  ·have : Nat.ble TOB (TOB + i) = true := Nat.ble_eq_true_of_le (by omega)
   simp only [Option.map, datF, this, cond_true]
theorem FC.snoc {D : qC} {cs : List AV} (h : FC D 0 cs) (y : List RT7) : FC (D ++ [y]) 0 ((cs.take (D.length * 1) ++ [AV.list 29 (y.map zo) (some (TOB + D.length))]).map datF) := by
 rw [Nat.mul_one, <- h.1, List.take_length, List.map_append, h.dF]
 have hb : Nat.ble TOB (TOB + cs.length) = true := Nat.ble_eq_true_of_le (by omega)
 simp only [List.map, datF, hb, cond_true]
 refine ⟨by simp [h.1], λ i hi => ?_⟩
 simp at hi
 by_cases e : i < D.length
 ·obtain ⟨t, e1, e2, e3⟩ := h.2 i e
  refine ⟨t, ?_, e2, e3⟩
  rw [List.getElem?_append_left (by rw [h.1]; exact e), e1, List.getElem_append_left e]
 ·obtain rfl : i = D.length := by omega
  refine ⟨some (TOB + D.length), ?_, .inr rfl, λ _ => rfl⟩
  rw [List.getElem?_append_right (by rw [h.1]; omega), List.getElem_append_right (by omega)]
  simp [h.1]
theorem znl {m e : Nat} {C : qC} (he : C.length <= 500) (hm : ∀ x ∈ C, x.length <= 1000) (X : List (List AV)) : ∀ (d k f : Nat) (cs : List AV), k + d = C.length -> d < f -> FC (C.take k) 0 cs -> ∃ cs', (zU 600).L f ((k : Int), zj C, X, k, cs, 0, k) = some (X, C.length, cs', 0, C.length) /\ FC C 0 cs' := by
 intro d
 induction d with
 | zero =>
  intro k f cs hk hf hc
  obtain ⟨f, rfl⟩ := pS hf
  obtain rfl : k = C.length := by omega
  rw [List.take_length] at hc
  refine ⟨cs, ?_, hc⟩
  show (zU 600).b _ _ ((zU 600).L f) some = _
  have e2 := ltF C.length C.length (by omega)
  simp only [zU]
  simp only [zq, e2, hc.dF]
 | succ d ih =>
  intro k f cs hk hf hc
  obtain ⟨f, rfl⟩ := pS hf
  have hkl : k < C.length := by omega
  have hn := hc.snoc C[k]
  have hlk : (C.take k).length = k := by simp; omega
  rw [hlk, List.take_append_getElem] at hn
  obtain ⟨cs', r1, r2⟩ := ih (k + 1) f _ (by omega) (by omega) hn
  refine ⟨cs', ?_, r2⟩
  show (zU 600).b _ _ ((zU 600).L f) some = _
  generalize (zU 600).L f = Lf at r1 |-
  have e2 := ltT k C.length (by omega)
  have h0 := nnI k
  have hx := hm C[k] (List.getElem_mem _)
  have b1 : ((([] : List (List AV)).length + (C[k].map zo).length) * 288 <= zd) = True := by unfold zd; simp; omega
  have b2 : ((True /\ 0 <= k) /\ k * 1 <= cs.length /\ (k + 1) * 24 <= zd) = True := by rw [hc.1, hlk]; unfold zd; simp; omega
  simp only [zU]
  simp only [zq, e2, h0, if_true, Int.toNat_natCast, zC C k hkl, zc1, zgn, b1, b2, List.nil_append, Zk k (by omega)]
  exact r1
theorem zr1 {C : qC} (he : C.length <= 500) (hm : ∀ x ∈ C, x.length <= 1000) : ∃ cs, zb1 600 (zj C) = some (C.length, cs, 0, C.length) /\ FC C 0 cs := by
 obtain ⟨cs, h1, h2⟩ := znl (m := 0) (e := 0) he hm [] C.length 0 600 [] (by omega) (by omega) (by simpa using FC.nil)
 refine ⟨cs, ?_, h2⟩
 replace h1 : (zU 600).L 600 (0, zj C, [], 0, [], 0, 0) = some ([], C.length, cs, 0, C.length) := h1
 simp only [zb1, FSpec.d, zif, zgY, h1, h2.dF]
theorem CG.small {T : Int} {m e : Nat} {C : qC} (h : CG T m e C) (hm : m <= 1000) : ∀ x ∈ C, x.length <= 1000 := λ x hx => by
 obtain ⟨k, hk, rfl⟩ := List.getElem_of_mem hx
 exact Nat.le_trans (h.xs k hk).le hm
end
section
theorem zaQ : ∀ (D : qC) (cs : List AV), cs.map dat0 = jw D -> zp cs 1 D.length = zj D
 | [], _, _ => rfl
 | x :: D, [], h => by cases h
 | x :: D, c :: cs, h => by
  have h' : dat0 c :: cs.map dat0 = AV.list 29 (x.map zo) none :: jw D := h
  injection h' with h1 h2
  show [dat0 c] :: zp cs 1 D.length = zqg x :: zj D
  rw [h1, zaQ D cs h2]; rfl
theorem FC.sp {D : qC} {k : Nat} {cs : List AV} (h : FC D k cs) (i : Nat) (y : List RT7) (q : Nat) : (splice cs i [AV.list 29 (y.map zo) (some q)]).map dat0 = jw (D.set i y) := by
 show (cs.set i _).map dat0 = _
 rw [List.map_set, h.d0]
 simp only [jw, List.map_set]
 rfl
theorem FC.csp {D : qC} {k : Nat} {cs : List AV} (h : FC D k cs) (i : Nat) (y : List RT7) (q : Nat) : zp ((splice cs i [AV.list 29 (y.map zo) (some q)]).take (D.length * 1)) 1 D.length = zj (D.set i y) := by
 rw [Nat.mul_one, List.take_of_length_le (by rw [zB, h.1]; exact Nat.le_refl _)]
 have := zaQ (D.set i y) _ (h.sp i y q)
 rw [List.length_set] at this
 exact this
structure Say (k : Int) (b : ByteArray) (to : Int) (e1 : RT0) : Prop where
 kd : k = 3 \/ k = 4 \/ k = 5 \/ k = 6
 per : Per b
 ev : k = 3 -> EvG e1
 to0 : k ≠ 5 -> to = 0
 to1 : 0 <= to
@[reducible] def zE : RT0 := ((⟨#[]⟩ : ByteArray), (⟨#[]⟩ : ByteArray), (⟨#[]⟩ : ByteArray), (⟨#[]⟩ : ByteArray), 0, 0, 0, 0, 0, ([] : List (List AV)), 0, 0, 0, 0, 0, 0, 0, 0, 0, 0, 0, 0, 0, 0, 0, ())
end
section
def ixD (A : List RT0) (nm : RT1) : Nat -> Int -> Prop := λ k y => (y = -1 /\ ∀ j (h : j < A.length), k <= j -> nmE A[j] ≠ nm) \/ ∃ j : Nat, y = (j : Int) /\ ∃ h : j < A.length, k <= j /\ nmE A[j] = nm /\ ∀ i (hi : i < A.length), k <= i -> i < j -> nmE A[i] ≠ nm
theorem zgj (A : List RT0) (nm : RT1) (hA : A.length <= 500) : ∀ (d k f : Nat), k + d = A.length -> d < f -> ∃ y, (Z4 600).L f (A.map zl, (k : Int), nm) = some y /\ ∃ z, ixD A nm k z /\ ((z = -1 /\ y = .inr ()) \/ (0 <= z /\ y = .inl z)) := by
 intro d
 induction d with
 | zero =>
  intro k f hk hf
  obtain ⟨f, rfl⟩ := pS hf
  refine ⟨_, ?_, -1, .inl ⟨rfl, λ j h h' => by omega⟩, .inl ⟨rfl, rfl⟩⟩
  show (Z4 600).b _ _ ((Z4 600).L f) some = _
  have e2 := ltF k A.length (by omega)
  simp only [Z4]
  simp only [List.length_map, e2]
 | succ d ih =>
  intro k f hk hf
  obtain ⟨f, rfl⟩ := pS hf
  have hkl : k < A.length := by omega
  have e2 := ltT k A.length (by omega)
  have h0 := nnI k
  by_cases hc : nmE A[k] = nm
  ·refine ⟨_, ?_, (k : Int), .inr ⟨k, rfl, hkl, Nat.le_refl _, hc, λ i hi h1 h2 => by omega⟩, .inr ⟨h0, rfl⟩⟩
   show (Z4 600).b _ _ ((Z4 600).L f) some = _
   have ee := (congrArg (eqP (nmE A[k])) hc).symm.trans (Jf (nmE A[k]))
   simp only [eqP] at ee
   simp only [Z4]
   simp only [List.length_map, e2, h0, if_true, Int.toNat_natCast, ze9 A k hkl, nm0, ee]
  ·obtain ⟨y, r1, z, r2, r3⟩ := ih (k + 1) f (by omega) (by omega)
   refine ⟨y, ?_, z, ?_, r3⟩
   ·show (Z4 600).b _ _ ((Z4 600).L f) some = _
    generalize (Z4 600).L f = Lf at r1 |-
    have ee := JM hc
    simp only [eqP] at ee
    simp only [Z4]
    simp only [List.length_map, e2, h0, if_true, Int.toNat_natCast, ze9 A k hkl, nm0, ee, Zk k (by omega)]
    exact r1
   ·rcases r2 with ⟨a, b⟩ | ⟨j, a, b, c, g, i⟩
    ·refine .inl ⟨a, λ j h h' => ?_⟩
     by_cases e : k = j
     ·subst e; exact hc
     ·exact b j h (by omega)
    ·refine .inr ⟨j, a, b, by omega, g, λ l hl h1 h2 => ?_⟩
     by_cases e : k = l
     ·subst e; exact hc
     ·exact i l hl (by omega) h2
theorem zuH (A : List RT0) (nm : RT1) (hA : A.length <= 500) : ∃ z, zmJ 600 (A.map zl, nm) = some z /\ ixD A nm 0 z := by
 obtain ⟨y, h1, z, h2, h3⟩ := zgj A nm hA A.length 0 600 (by omega) (by omega)
 replace h1 : (Z4 600).L 600 (A.map zl, 0, nm) = some y := h1
 refine ⟨z, ?_, h2⟩
 simp only [zmJ, FSpec.d, ztR, zrH, h1]
 rcases h3 with ⟨rfl, rfl⟩ | ⟨_, rfl⟩ <;> rfl
def ic (L : List Int) : List AV := L.map λ x => AV.v (.int .i64 x)
theorem zcM (L : List Int) : (ic L).length = L.length := by simp [ic]
theorem zcL (L : List Int) (k : Nat) (h : k < L.length) : (ic L)[k]? = some (AV.v (.int .i64 L[k])) := by simp [ic, h]
theorem zt (L : List Int) : (ic L).map dat0 = ic L := by simp only [ic, List.map_map]; rfl
theorem znH (L : List Int) (k : Nat) (y : Int) : splice (ic L) k [AV.v (.int .i64 y)] = ic (L.set k y) := by
 show (ic L).set k _ = _
 simp [ic, List.map_set]
theorem zzl (L : List Int) (x : Int) : ic L ++ [AV.v (.int .i64 x)] = ic (L ++ [x]) := by simp [ic]
theorem zuG (L : List Int) (x : Int) (hL : L.length <= 500) : ∀ (d k f : Nat), k + d = L.length -> d < f -> ∃ y, (Zv 600).L f (L.length, x, (k : Int), ic L) = some y /\ ((x ∈ L.drop k /\ y = .inl (true, ic L)) \/ (x ∉ L.drop k /\ y = .inr (ic L))) := by
 intro d
 induction d with
 | zero =>
  intro k f hk hf
  obtain ⟨f, rfl⟩ := pS hf
  refine ⟨_, ?_, .inr ⟨by rw [List.drop_eq_nil_of_le (by omega)]; simp, rfl⟩⟩
  show (Zv 600).b _ _ ((Zv 600).L f) some = _
  have e2 := ltF k L.length (by omega)
  simp only [Zv]
  simp only [e2, zt]
 | succ d ih =>
  intro k f hk hf
  obtain ⟨f, rfl⟩ := pS hf
  have hkl : k < L.length := by omega
  have e2 := ltT k L.length (by omega)
  have h0 := nnI k
  have h1 : (k : Int) < (L.length : Int) := by omega
  have hd := List.drop_eq_getElem_cons hkl
  by_cases hc : L[k] = x
  ·refine ⟨_, ?_, .inl ⟨by rw [hd, hc]; exact List.mem_cons_self, rfl⟩⟩
   show (Zv 600).b _ _ ((Zv 600).L f) some = _
   have e3 : (L[k] == x) = true := by simp [hc]
   simp only [Zv]
   simp only [e2, h0, h1, decide_true, and_self, if_true, Nat.zero_add, Nat.mul_one, Int.toNat_natCast, zcL L k hkl, e3, zt]
  ·obtain ⟨y, r1, r2⟩ := ih (k + 1) f (by omega) (by omega)
   refine ⟨y, ?_, ?_⟩
   ·show (Zv 600).b _ _ ((Zv 600).L f) some = _
    generalize (Zv 600).L f = Lf at r1 |-
    have e3 : (L[k] == x) = false := by simp [hc]
    simp only [Zv]
    simp only [e2, h0, h1, decide_true, and_self, if_true, Nat.zero_add, Nat.mul_one, Int.toNat_natCast, zcL L k hkl, e3, zt, Zk k (by omega)]
    exact r1
   ·rw [hd, List.mem_cons]
    rcases r2 with ⟨a, b⟩ | ⟨a, b⟩
    ·exact .inl ⟨.inr a, b⟩
    ·exact .inr ⟨λ h => h.elim (λ e => hc e.symm) a, b⟩
theorem zCT (L : List Int) (x : Int) (hL : L.length <= 500) : ∃ b, zb9 600 (L.length, x, ic L) = some (b, ic L) /\ (b = true ↔ x ∈ L) := by
 obtain ⟨y, h1, h2⟩ := zuG L x hL L.length 0 600 (by omega) (by omega)
 replace h1 : (Zv 600).L 600 (L.length, x, 0, ic L) = some y := h1
 rw [List.drop_zero] at h2
 simp only [zb9, FSpec.d, zmp, zmm, zt, h1]
 rcases h2 with ⟨a, rfl⟩ | ⟨a, rfl⟩
 ·exact ⟨true, by simp only [zt], by simp [a]⟩
 ·exact ⟨false, by simp only [zt], by simp [a]⟩
def Rg (n : Nat) (L : List Int) : Prop := ∀ x ∈ L, -1 <= x /\ x < n
theorem Rg.snoc {n : Nat} {L : List Int} {x : Int} (h : Rg n L) (hx : -1 <= x /\ x < n) : Rg n (L ++ [x]) := λ y hy => by
 rcases List.mem_append.1 hy with h1 | h1
 ·exact h y h1
 ·rw [List.mem_singleton.1 h1]; exact hx
theorem Rg.set {n : Nat} {L : List Int} {x : Int} (h : Rg n L) (k : Nat) (hx : -1 <= x /\ x < n) : Rg n (L.set k x) := λ y hy => by
 rcases List.mem_or_eq_of_mem_set hy with h1 | h1
 ·exact h y h1
 ·rw [h1]; exact hx
end
section
def zhh (t : Int) (e : RT0) : RT7 := (1, t, nob, 0, e)
def zvC (t : Int) (e : RT0) : RT7 := (2, t, nob, 0, e)
open Classical in
noncomputable def zdk (A : List RT0) (t : Int) (u : RT7) (k : Int) : Option RT7 :=
 if JY (kdV u) = true then
  if h : 0 <= k /\ k < A.length then
   if jc (kdV u) = true /\ evV u = A[k.toNat] then none else some (zhh t A[k.toNat])
  else if kdV u = 2 then none else some (zvC t (evV u))
 else none
theorem zvh (A : List RT0) (hA : ∀ a ∈ A, EvG a) (t : Int) (u : RT7) (hu : EvG (evV u)) (k i : Int) (hk : -1 <= k /\ k < A.length) (ch : List (List AV)) (n N : Nat) (X Y : List (List AV)) (cs ci : List AV) (hcs : cs.map datF = cs) (hci : ci.map dat0 = ci) (j M : Nat) :
  ∃ s v, zex 600 (ch, A.map zl, t, n, i, (kdV u == 2), k, decide (k >= 0), X, Y, N, u, zvC t (evV u), cs, ci, j, M) = some (ch, A.map zl, t, n, i, s, X, Y, N, u, v, cs, ci, j, M) /\ (JY (kdV u) = true -> zdk A t u k = if s = true then none else some v) := by
 have hu' : ∀ y, (j5 600).b (ch, A.map zl, t, n, i, (kdV u == 2), k, decide (k >= 0), X, Y, N, u, zvC t (evV u), cs, ci, j, M) _ ((j5 600).L 599) some = y -> zex 600 (ch, A.map zl, t, n, i, (kdV u == 2), k, decide (k >= 0), X, Y, N, u, zvC t (evV u), cs, ci, j, M) = y := λ y h => h
 by_cases hk0 : 0 <= k
 ·obtain ⟨j', rfl⟩ : ∃ j' : Nat, k = (j' : Int) := ⟨k.toNat, by omega⟩
  have hj : j' < A.length := by omega
  have e1 : decide ((j' : Int) >= 0) = true := dT (by omega)
  have hs := zoi 600 u
  have hnv : ∀ s v, (s = true ↔ (jc (kdV u) = true /\ evV u = A[j'])) -> v = zhh t A[j'] -> JY (kdV u) = true -> zdk A t u (j' : Int) = if s = true then none else some v := λ s v h1 h2 ho => by
   unfold zdk
   rw [if_pos ho, dif_pos ⟨hk0, by omega⟩]
   simp only [Int.toNat_natCast, h2]
   by_cases c : s = true
   ·rw [if_pos c, if_pos (h1.1 c)]
   ·rw [if_neg c, if_neg (λ h => c (h1.2 h))]
  cases hsh : jc (kdV u) with
  | false =>
   rw [hsh] at hs
   refine ⟨false, zhh t A[j'], hu' _ ?_, hnv _ _ (by simp [hsh]) rfl⟩
   simp only [j5]
   simp only [e1, hk0, if_true, Int.toNat_natCast, ze9 A j' hj, Zh, hs, hcs, hci]
   rfl
  | true =>
   rw [hsh] at hs
   obtain ⟨b, q1, q2⟩ := zhH (evV u) A[j'] hu.pk (hA _ (List.getElem_mem _)).pk
   replace q1 : zb3 600 (zm u, A[j']) = some b := q1
   refine ⟨b, zhh t A[j'], hu' _ ?_, hnv _ _ (by rw [q2]; simp [hsh]) rfl⟩
   simp only [j5]
   simp only [e1, hk0, if_true, Int.toNat_natCast, ze9 A j' hj, Zh, hs, hcs, hci, q1]
   rfl
 ·have e1 : decide (k >= 0) = false := dF (by omega)
  refine ⟨(kdV u == 2), zvC t (evV u), hu' _ ?_, ?_⟩
  ·simp only [j5]
   simp only [e1, hcs, hci]
  ·intro ho
   unfold zdk
   rw [if_pos ho, dif_neg (λ h => hk0 h.1)]
   by_cases c : kdV u = 2
   ·rw [if_pos c, if_pos (by simpa using c)]
   ·rw [if_neg c, if_neg (by simpa using c)]
end
section
theorem ziC (D : qC) (v : RT7) : ((jw D).take (D.length * 1) ++ [AV.list 29 [zo v] none]).map dat0 = jw (D ++ [[v]]) := by
 rw [Nat.mul_one, List.take_of_length_le (by rw [zbC]; exact Nat.le_refl _), List.map_append, Ja, <- zpu]
 rfl
theorem zfv {xs : List Int} {p : Int} (D : Sc xs p) : ∃ b p', zat 600 ([[AV.v (.string (⟨#[97, 110, 110]⟩ : ByteArray))], [AV.v (.string (⟨#[98, 111, 98]⟩ : ByteArray))]], zg xs, p) = some (b, zg xs, p') /\ Per b /\ Sc xs p' := by
 obtain ⟨v, p1, h1, m1, D1⟩ := zar 600 (n := 2) (by omega) D
 replace h1 : Za 600 ((([[AV.v (.string (⟨#[97, 110, 110]⟩ : ByteArray))], [AV.v (.string (⟨#[98, 111, 98]⟩ : ByteArray))]] : List (List AV)).length : Int), zg xs, p) = some (v, zg xs, p1) := h1
 have h0 : 0 <= v := m1.1
 rcases (show v = 0 \/ v = 1 by omega) with rfl | rfl
 ·refine ⟨ann, p1, ?_, (show zdl ann = true by kernel_rfl), D1⟩
  simp only [zat, FSpec.d, zfG, h1]
  rfl
 ·refine ⟨bob, p1, ?_, (show zdl bob = true by kernel_rfl), D1⟩
  simp only [zat, FSpec.d, zfG, h1]
  rfl
end
section
theorem zzK (x : List (List AV)) (h : x.length <= 100000) : zpa 600 x = some x := by
 have hb : ((([] : List (List AV)).length + x.length) * 104 <= zd) = True := by unfold zd; simp; omega
 simp only [zpa, FSpec.d, zt4]
 cases x with
 | nil => simp only [hb, if_true]; exact if_pos rfl
 | cons a l => simp only [hb, if_true, List.nil_append]
theorem Jc {e : RT0} (h : jj e) : zb6 600 e = some e := by
 obtain ⟨P, h1, h2⟩ := h
 have hc : zpa 600 e.2.2.2.2.2.2.2.2.2.1 = some e.2.2.2.2.2.2.2.2.2.1 := zzK _ (by
  have : e.2.2.2.2.2.2.2.2.2.1 = P.map zh := h2
  rw [this]; simp; omega)
 simp only [zb6, FSpec.d, ztk, hc]
theorem zp7 {T : Int} {m e : Nat} {C : qC} (he : e <= 500) (hm : m <= 100) (hC : CG T m e C) (i : Nat) (hi : i < C.length) (X : List (List AV)) (N : Nat) (cs : List AV) (hcs : cs.map datF = cs) (j M : Nat) : ∀ (d k f : Nat), k + d = C[i].length -> d < f -> (Zm 600).L f ((C[i].take k).map zo, zj C, C[i].map zo, (C.length : Int), (i : Int), (C[i].length : Int), (k : Int), X, N, cs, j, M) = some (C[i].map zo, zj C, (C.length : Int), (i : Int), X, N, cs, j, M) := by
 have h := hC.xs i hi
 have hle := hC.le
 have hxl := h.le
 intro d
 induction d with
 | zero =>
  intro k f hk hf
  obtain ⟨f, rfl⟩ := pS hf
  show (Zm 600).b _ _ ((Zm 600).L f) some = _
  have e2 := ltF k C[i].length (by omega)
  have e3 : C[i].take k = C[i] := List.take_of_length_le (by omega)
  simp only [Zm]
  simp only [e2, e3, hcs]
 | succ d ih =>
  intro k f hk hf
  obtain ⟨f, rfl⟩ := pS hf
  have hkl : k < C[i].length := by omega
  have r1 := ih (k + 1) f (by omega) (by omega)
  show (Zm 600).b _ _ ((Zm 600).L f) some = _
  generalize (Zm 600).L f = Lf at r1 |-
  have e2 := ltT k C[i].length (by omega)
  have h0 := nnI k
  have hc := Jc (h.vs k hkl).ev.pk
  replace hc : zb6 600 (zm C[i][k]) = some (evV C[i][k]) := hc
  have b1 : (((C[i].take k).map zo).length + 1) * 288 <= zd := by unfold zd; simp; omega
  have e3 : (C[i].take (k + 1)).map zo = (C[i].take k).map zo ++ [zo C[i][k]] := by
   rw [<- List.take_append_getElem hkl, List.map_append]; rfl
  rw [e3] at r1
  simp only [Zm]
  simp only [e2, h0, if_true, Int.toNat_natCast, zbi C[i] k hkl, rd7, hc, hcs, Zk k (by omega), List.length_cons, List.length_nil, Nat.zero_add]
  exact (if_pos b1).trans r1
theorem zn1 {T : Int} {m e : Nat} {C : qC} (he : e <= 500) (hm : m <= 100) (hC : CG T m e C) (X : List (List AV)) : ∀ (d k f : Nat) (cs : List AV), k + d = C.length -> d < f -> FC (C.take k) 0 cs -> ∃ cs', (ZS 600).L f (zj C, (C.length : Int), (k : Int), X, k, cs, 0, k) = some (X, C.length, cs', 0, C.length) /\ FC C 0 cs' := by
 have hle := hC.le
 intro d
 induction d with
 | zero =>
  intro k f cs hk hf hc
  obtain ⟨f, rfl⟩ := pS hf
  obtain rfl : k = C.length := by omega
  rw [List.take_length] at hc
  refine ⟨cs, ?_, hc⟩
  show (ZS 600).b _ _ ((ZS 600).L f) some = _
  have e2 := ltF C.length C.length (by omega)
  simp only [ZS]
  simp only [e2, hc.dF]
 | succ d ih =>
  intro k f cs hk hf hc
  obtain ⟨f, rfl⟩ := pS hf
  have hkl : k < C.length := by omega
  have hxl := (hC.xs k hkl).le
  have hn := hc.snoc C[k]
  have hlk : (C.take k).length = k := by simp; omega
  rw [hlk, List.take_append_getElem] at hn
  obtain ⟨cs', r1, r2⟩ := ih (k + 1) f _ (by omega) (by omega) hn
  have a1 := zp7 he hm hC k hkl X k cs hc.dF 0 k C[k].length 0 600 (by omega) (by omega)
  replace a1 : (Zm 600).L 600 ([], zj C, C[k].map zo, (C.length : Int), (k : Int), (C[k].length : Int), 0, X, k, cs, 0, k) = _ := a1
  refine ⟨cs', ?_, r2⟩
  show (ZS 600).b _ _ ((ZS 600).L f) some = _
  generalize (ZS 600).L f = Lf at r1 |-
  have e2 := ltT k C.length (by omega)
  have h0 := nnI k
  have b2 : ((True /\ 0 <= k) /\ k * 1 <= cs.length /\ (k + 1) * 24 <= zd) = True := by rw [hc.1, hlk]; unfold zd; simp; omega
  simp only [ZS]
  simp only [e2, h0, if_true, Int.toNat_natCast, zC C k hkl, rd6, List.length_map, hc.dF, zih, a1, b2, Zk k (by omega)]
  exact r1
theorem zy9 {T : Int} {m e : Nat} {C : qC} (he : e <= 500) (hm : m <= 100) (hC : CG T m e C) : ∃ cs, zig 600 (zj C) = some (C.length, cs, 0, C.length) /\ FC C 0 cs := by
 have hle := hC.le
 obtain ⟨cs, h1, h2⟩ := zn1 he hm hC [] C.length 0 600 [] (by omega) (by omega) (by simpa using FC.nil)
 refine ⟨cs, ?_, h2⟩
 replace h1 : (ZS 600).L 600 (zj C, (C.length : Int), 0, [], 0, [], 0, 0) = some ([], C.length, cs, 0, C.length) := h1
 simp only [zig, FSpec.d, zma, zl8, zq, h1, h2.dF]
end
section
structure Cm {α : Type} (c : α -> α -> Int) : Prop where
 vals : ∀ a b, c a b = -1 \/ c a b = 0 \/ c a b = 1
 zero : ∀ a b, c a b = 0 ↔ a = b
 anti : ∀ a b, c b a = - c a b
 trans : ∀ a b d, c a b = -1 -> c b d = -1 -> c a d = -1
def cmU : Unit -> Unit -> Int := λ _ _ => 0
theorem Cm.unit : Cm cmU := ⟨λ _ _ => .inr (.inl rfl), λ _ _ => ⟨λ _ => rfl, λ _ => rfl⟩, λ _ _ => rfl, λ _ _ _ h => by cases h⟩
def cmI (a b : Int) : Int := if a < b then -1 else if a > b then 1 else 0
theorem zbe {a b : Int} (h : a < b) : cmI a b = -1 := if_pos h
theorem zcB (a : Int) : cmI a a = 0 := (if_neg (by omega)).trans (if_neg (by omega))
theorem zbd {a b : Int} (h : b < a) : cmI a b = 1 := (if_neg (by omega)).trans (if_pos h)
theorem Cm.int : Cm cmI := by
 refine ⟨λ a b => ?_, λ a b => ?_, λ a b => ?_, λ a b d h1 h2 => ?_⟩
 ·rcases Int.lt_trichotomy a b with h | rfl | h
  ·exact .inl (zbe h)
  ·exact .inr (.inl (zcB _))
  ·exact .inr (.inr (zbd h))
 ·rcases Int.lt_trichotomy a b with h | rfl | h
  ·rw [zbe h]; constructor <;> intro e <;> omega
  ·exact ⟨λ _ => rfl, λ _ => zcB _⟩
  ·rw [zbd h]; constructor <;> intro e <;> omega
 ·rcases Int.lt_trichotomy a b with h | rfl | h
  ·rw [zbe h, zbd h]; rfl
  ·rw [zcB]; rfl
  ·rw [zbd h, zbe h]
 ·have k : ∀ x y : Int, cmI x y = -1 -> x < y := λ x y e => by
   rcases Int.lt_trichotomy x y with h | rfl | h
   ·exact h
   ·rw [zcB] at e; cases e
   ·rw [zbd h] at e; cases e
  exact zbe (Int.lt_trans (k _ _ h1) (k _ _ h2))
theorem zeO (x y : UInt8) (a b : List UInt8) : Go.Op.bytesLess (x :: a) (y :: b) = true ↔ x.toNat < y.toNat \/ (x.toNat = y.toNat /\ Go.Op.bytesLess a b = true) := by
 simp [Go.Op.bytesLess, UInt8.lt_iff_toNat_lt, UInt8.toNat_inj]
theorem zd4 : ∀ a : List UInt8, ¬ Go.Op.bytesLess a a = true
 | [] => by simp [Go.Op.bytesLess]
 | x :: a => by
  rw [zeO]
  rintro (h | ⟨_, h⟩)
  ·omega
  ·exact zd4 a h
theorem znd : ∀ a b : List UInt8, Go.Op.bytesLess a b = true \/ a = b \/ Go.Op.bytesLess b a = true
 | [], [] => .inr (.inl rfl)
 | [], _ :: _ => .inl rfl
 | _ :: _, [] => .inr (.inr rfl)
 | x :: a, y :: b => by
  rw [zeO, zeO]
  rcases Nat.lt_trichotomy x.toNat y.toNat with h | h | h
  ·exact .inl (.inl h)
  ·rcases znd a b with g | g | g
   ·exact .inl (.inr ⟨h, g⟩)
   ·exact .inr (.inl (by rw [UInt8.toNat_inj.1 h, g]))
   ·exact .inr (.inr (.inr ⟨h.symm, g⟩))
  ·exact .inr (.inr (.inl h))
theorem zeP : ∀ a b c : List UInt8, Go.Op.bytesLess a b = true -> Go.Op.bytesLess b c = true -> Go.Op.bytesLess a c = true
 | _, [], _, h, _ => by cases h' : (by assumption : List UInt8) <;> simp [Go.Op.bytesLess] at h
 | _, _ :: _, [], _, h => by simp [Go.Op.bytesLess] at h
 | [], _ :: _, _ :: _, _, _ => rfl
 | x :: a, y :: b, z :: c, h1, h2 => by
  rw [zeO] at *
  rcases h1 with h1 | ⟨h1, g1⟩ <;> rcases h2 with h2 | ⟨h2, g2⟩
  ·exact .inl (by omega)
  ·exact .inl (by omega)
  ·exact .inl (by omega)
  ·exact .inr ⟨by omega, zeP a b c g1 g2⟩
def cmS (a b : ByteArray) : Int := if Go.Op.bytesLess a.toList b.toList = true then -1 else if Go.Op.bytesLess b.toList a.toList = true then 1 else 0
theorem zrV {a b : ByteArray} (h : a.toList = b.toList) : a = b := by
 have := beq_toListBytes a b
 rw [h, beq_self_eq_true] at this
 exact ziz.1 this
theorem Cm.str : Cm cmS := by
 refine ⟨λ a b => ?_, λ a b => ?_, λ a b => ?_, λ a b d h1 h2 => ?_⟩ <;> unfold cmS at *
 ·split
  ·exact .inl rfl
  ·split
   ·exact .inr (.inr rfl)
   ·exact .inr (.inl rfl)
 ·constructor
  ·intro h
   split at h
   ·cases h
   ·split at h
    ·cases h
    ·rename_i g1 g2
     rcases znd a.toList b.toList with g | g | g
     ·exact absurd g g1
     ·exact zrV g
     ·exact absurd g g2
  ·rintro rfl
   rw [if_neg (zd4 _), if_neg (zd4 _)]
 ·by_cases h1 : Go.Op.bytesLess a.toList b.toList = true
  ·have : ¬ Go.Op.bytesLess b.toList a.toList = true := λ h => zd4 _ (zeP _ _ _ h1 h)
   rw [if_neg this, if_pos h1, if_pos h1]; rfl
  ·by_cases h2 : Go.Op.bytesLess b.toList a.toList = true
   ·rw [if_pos h2, if_neg h1, if_pos h2]
   ·rw [if_neg h2, if_neg h1, if_neg h1, if_neg h2]; rfl
 ·have g1 : Go.Op.bytesLess a.toList b.toList = true := by
   by_cases h : Go.Op.bytesLess a.toList b.toList = true
   ·exact h
   ·rw [if_neg h] at h1; split at h1 <;> cases h1
  have g2 : Go.Op.bytesLess b.toList d.toList = true := by
   by_cases h : Go.Op.bytesLess b.toList d.toList = true
   ·exact h
   ·rw [if_neg h] at h2; split at h2 <;> cases h2
  rw [if_pos (zeP _ _ _ g1 g2)]
def znO {α β : Type} (c : α -> α -> Int) (d : β -> β -> Int) (x y : α × β) : Int := if c x.1 y.1 = 0 then d x.2 y.2 else c x.1 y.1
theorem Cm.lex {α β : Type} {c : α -> α -> Int} {d : β -> β -> Int} (hc : Cm c) (hd : Cm d) : Cm (znO c d) := by
 refine ⟨λ a b => ?_, λ a b => ?_, λ a b => ?_, λ x y z h1 h2 => ?_⟩ <;> unfold znO at *
 ·split
  ·exact hd.vals _ _
  ·exact hc.vals _ _
 ·constructor
  ·intro h
   split at h
   ·rename_i g
    exact Prod.ext ((hc.zero _ _).1 g) ((hd.zero _ _).1 h)
   ·exact absurd h (by assumption)
  ·rintro rfl
   rw [if_pos ((hc.zero _ _).2 rfl)]
   exact (hd.zero _ _).2 rfl
 ·rw [hc.anti a.1 b.1, hd.anti a.2 b.2]
  by_cases h : c a.1 b.1 = 0
  ·rw [if_pos h, if_pos (by omega)]
  ·rw [if_neg h, if_neg (by omega)]
 ·by_cases g1 : c x.1 y.1 = 0 <;> by_cases g2 : c y.1 z.1 = 0
  ·rw [if_pos g1] at h1
   rw [if_pos g2] at h2
   rw [(hc.zero _ _).1 g1, if_pos g2]
   exact hd.trans _ _ _ h1 h2
  ·rw [if_pos g1] at h1
   rw [if_neg g2] at h2
   rw [(hc.zero _ _).1 g1, if_neg g2]
   exact h2
  ·rw [if_neg g1] at h1
   rw [if_pos g2] at h2
   rw [<- (hc.zero _ _).1 g2, if_neg g1]
   exact h1
  ·rw [if_neg g1] at h1
   rw [if_neg g2] at h2
   have := hc.trans _ _ _ h1 h2
   rw [if_neg (by omega)]
   exact this
end
section
def Zx : List Int -> Int
 | [] => 0
 | y :: l => if y = 0 then Zx l else y
theorem zcK : ∀ (A B : List Int), Zx (Zx A :: B) = Zx (A ++ B)
 | [], B => by simp [Zx]
 | y :: A, B => by
  have ih := zcK A B
  by_cases h : y = 0
  ·have e1 : Zx (y :: A) = Zx A := if_pos h
   have e2 : Zx (y :: A ++ B) = Zx (A ++ B) := if_pos h
   rw [e1, e2, ih]
  ·have e1 : Zx (y :: A) = y := if_neg h
   have e2 : Zx (y :: A ++ B) = y := if_neg h
   rw [e1, e2]
   exact if_neg h
theorem zu0 (L : List Int) (hL : L.length <= 100) : ∀ (d k f : Nat), k + d = L.length -> d < f -> ∃ y, (Zq 600).L f (zg L, 0, (L.length : Int), (k : Int)) = some y /\ ((Zx (L.drop k) = 0 /\ y = .inr 0) \/ (Zx (L.drop k) ≠ 0 /\ y = .inl (Zx (L.drop k), 0))) := by
 intro d
 induction d with
 | zero =>
  intro k f hk hf
  obtain ⟨f, rfl⟩ := pS hf
  rw [List.drop_eq_nil_of_le (by omega)]
  refine ⟨.inr 0, ?_, .inl ⟨rfl, rfl⟩⟩
  show (Zq 600).b _ _ ((Zq 600).L f) some = _
  have e2 := ltF k L.length (by omega)
  simp only [Zq]
  simp only [e2]
 | succ d ih =>
  intro k f hk hf
  obtain ⟨f, rfl⟩ := pS hf
  have hkl : k < L.length := by omega
  obtain ⟨y, r1, r2⟩ := ih (k + 1) f (by omega) (by omega)
  have e2 := ltT k L.length (by omega)
  have h0 := nnI k
  have hg := jB L k hkl
  have hd : L.drop k = L[k] :: L.drop (k + 1) := List.drop_eq_getElem_cons hkl
  rw [hd]
  by_cases hz : L[k] = 0
  ·have e3 : Zx (L[k] :: L.drop (k + 1)) = Zx (L.drop (k + 1)) := if_pos hz
   rw [e3]
   refine ⟨y, ?_, r2⟩
   show (Zq 600).b _ _ ((Zq 600).L f) some = _
   generalize (Zq 600).L f = Lf at r1 |-
   have e4 : (L[k] != 0) = false := by simp [hz]
   simp only [Zq]
   simp only [e2, h0, if_true, Int.toNat_natCast, hg, I, List.getElem?_cons_zero, e4, Zk k (by omega)]
   exact r1
  ·have e3 : Zx (L[k] :: L.drop (k + 1)) = L[k] := if_neg hz
   rw [e3]
   refine ⟨.inl (L[k], 0), ?_, .inr ⟨hz, rfl⟩⟩
   show (Zq 600).b _ _ ((Zq 600).L f) some = _
   have e4 : (L[k] != 0) = true := by simp [hz]
   simp only [Zq]
   simp only [e2, h0, if_true, Int.toNat_natCast, hg, I, List.getElem?_cons_zero, e4]
theorem zu1 (L : List Int) (hL : L.length <= 100) : za3 600 (zg L) = some (Zx L) := by
 obtain ⟨y, h1, h2⟩ := zu0 L hL L.length 0 600 (by omega) (by omega)
 rw [List.drop_zero] at h2
 replace h1 : (Zq 600).L 600 (zg L, 0, (L.length : Int), 0) = some y := h1
 simp only [za3, FSpec.d, zkN, zkK, zZ, h1]
 rcases h2 with ⟨h2, rfl⟩ | ⟨h2, rfl⟩
 ·rw [h2]
 ·rfl
theorem zr0 (a b : ByteArray) : zbQ 600 (a, b) = some (cmS a b) := by
 have e1 : ∀ x : ByteArray, zds 600 x = some false := λ x => by
  simp only [zds, FSpec.d, zh2, beq_self_eq_true, Bool.not_true]
 simp only [zbQ, FSpec.d, zh1, e1]
 unfold cmS
 cases h1 : Go.Op.bytesLess a.toList b.toList with
 | true => rfl
 | false =>
  rcases znd a.toList b.toList with h | h | h
  ·rw [h1] at h; cases h
  ·have e2 : (a.toList == b.toList) = true := by rw [h]; exact beq_self_eq_true _
   have e3 : ¬ Go.Op.bytesLess b.toList a.toList = true := by rw [h]; exact zd4 _
   simp only [e2, Bool.or_true, Bool.not_true, Bool.false_eq_true, if_false]
   rw [if_neg e3]
  ·have e2 : (a.toList == b.toList) = false := by
    cases e : a.toList == b.toList with
    | false => rfl
    | true => rw [eq_of_beq e] at h; exact absurd h (zd4 _)
   simp only [e2, Bool.or_false, Bool.not_false, Bool.false_eq_true, if_false]
   rw [if_pos h]
theorem zy3 (a b : ByteArray) : zdr 600 (a, b) = some (cmS a b) := by
 have h := zr0 a b
 have e1 : ∀ x : ByteArray, zds 600 x = some false := λ x => by
  simp only [zds, FSpec.d, zh2, beq_self_eq_true, Bool.not_true]
 simp only [zbQ, FSpec.d, zh1, e1] at h
 simp only [zdr, FSpec.d, zla]
 exact h
theorem zrZ (a b : Int) : za4 600 (a, b) = some (cmI a b) := by
 have e1 : ∀ x : Int, zh0 600 x = some false := λ x => by
  simp only [zh0, FSpec.d, zk6, bne_self_eq_false]
 simp only [za4, FSpec.d, zkO, e1]
 rcases Int.lt_trichotomy a b with h | rfl | h
 ·rw [zbe h, decide_eq_true h]
 ·rw [zcB, decide_eq_false (by omega)]
 ·rw [zbd h, decide_eq_false (by omega), decide_eq_true (show a > b from h)]
def cE : RT1 -> RT1 -> Int := znO cmS (znO cmS (znO cmS (znO cmS (znO cmI (znO cmI (znO cmI (znO cmI (znO cmI cmU))))))))
theorem Cm.pick : Cm cE := Cm.str.lex (Cm.str.lex (Cm.str.lex (Cm.str.lex (Cm.int.lex (Cm.int.lex (Cm.int.lex (Cm.int.lex (Cm.int.lex Cm.unit))))))))
def nsS (p q : RT1) : List Int := [cmS p.1 q.1, cmS p.2.1 q.2.1, cmS p.2.2.1 q.2.2.1, cmS p.2.2.2.1 q.2.2.2.1]
def nsI (p q : RT1) : List Int := [cmI p.2.2.2.2.1 q.2.2.2.2.1, cmI p.2.2.2.2.2.1 q.2.2.2.2.2.1, cmI p.2.2.2.2.2.2.1 q.2.2.2.2.2.2.1, cmI p.2.2.2.2.2.2.2.1 q.2.2.2.2.2.2.2.1, cmI p.2.2.2.2.2.2.2.2.1 q.2.2.2.2.2.2.2.2.1]
theorem zyY (p q : RT1) : cE p q = Zx (nsS p q ++ nsI p q) := rfl
theorem zus (p q : RT1) : zpc 600 (p, q) = some (cE p q) := by
 have h1 : zk4 600 (j7 p, j7 q) = some (Zx (nsS p q)) := by
  have := zu1 (nsS p q) (by simp [nsS])
  simp only [zk4, FSpec.d, zk5, zr0]
  replace this : za3 600 [[AV.v (.int .i64 (cmS p.1 q.1))], [AV.v (.int .i64 (cmS p.2.1 q.2.1))], [AV.v (.int .i64 (cmS p.2.2.1 q.2.2.1))], [AV.v (.int .i64 (cmS p.2.2.2.1 q.2.2.2.1))]] = some (Zx (nsS p q)) := this
  simp only [this]
 have h2 := zu1 (Zx (nsS p q) :: nsI p q) (by simp [nsI])
 rw [zcK, <- zyY] at h2
 simp only [zpc, FSpec.d, zuc, h1, zrZ]
 replace h2 : za3 600 [[AV.v (.int .i64 (Zx (nsS p q)))], [AV.v (.int .i64 (cmI p.2.2.2.2.1 q.2.2.2.2.1))], [AV.v (.int .i64 (cmI p.2.2.2.2.2.1 q.2.2.2.2.2.1))], [AV.v (.int .i64 (cmI p.2.2.2.2.2.2.1 q.2.2.2.2.2.2.1))], [AV.v (.int .i64 (cmI p.2.2.2.2.2.2.2.1 q.2.2.2.2.2.2.2.1))], [AV.v (.int .i64 (cmI p.2.2.2.2.2.2.2.2.1 q.2.2.2.2.2.2.2.2.1))]] = some (cE p q) := h2
 simp only [h2]
theorem zbL (y : RT4) (k f : Nat) (hk : k < 4) (n : Int) (hn : [y.1, y.2.1, y.2.2.1, y.2.2.2.1][k]? = some n) : (Zg 600).L (f + 1) (y, (k : Int)) = (if n = 0 then (Zg 600).L f (y, ((k + 1 : Nat) : Int)) else some (.inl n)) := by
 show (Zg 600).b _ _ ((Zg 600).L f) some = _
 obtain ⟨Lf, hLf⟩ : ∃ Lf, Lf = (Zg 600).L f := ⟨_, rfl⟩
 rw [<- hLf]
 have hn' : [(AV.v (.int .i64 y.1)), (AV.v (.int .i64 y.2.1)), (AV.v (.int .i64 y.2.2.1)), (AV.v (.int .i64 y.2.2.2.1))][k * 1]? = some (AV.v (.int .i64 n)) := by
  rcases (show k = 0 \/ k = 1 \/ k = 2 \/ k = 3 by omega) with rfl | rfl | rfl | rfl <;> simp_all
 have e1 : decide ((k : Int) < 4) = true := dT (by omega)
 have e2 : 0 <= (k : Int) /\ (k : Int) < 4 := by omega
 simp only [Zg]
 simp only [e1, e2, decide_true, and_self, if_true, Int.toNat_natCast, hn', Zk k (by omega)]
 by_cases h : n = 0
 ·subst h
  simp only [bne_self_eq_false]
  exact (if_pos trivial).symm
 ·have e3 : (n != 0) = true := by simp [h]
  simp only [e3]
  exact (if_neg h).symm
theorem zuY (y : RT4) (f : Nat) : (Zg 600).L (f + 1) (y, 4) = some (.inr ()) := by
 show (Zg 600).b _ _ ((Zg 600).L f) some = _
 simp only [Zg]
 rfl
theorem or4 (y1 y2 y3 y4 : Int) : ∃ y, zgM 600 ((y1, y2, y3, y4, ()), 0) = some y /\ ((Zx [y1, y2, y3, y4] = 0 /\ y = .inr ()) \/ (Zx [y1, y2, y3, y4] ≠ 0 /\ y = .inl (Zx [y1, y2, y3, y4]))) := by
 have s0 := zbL (y1, y2, y3, y4, ()) 0 599 (by omega) y1 rfl
 have s1 := zbL (y1, y2, y3, y4, ()) 1 598 (by omega) y2 rfl
 have s2 := zbL (y1, y2, y3, y4, ()) 2 597 (by omega) y3 rfl
 have s3 := zbL (y1, y2, y3, y4, ()) 3 596 (by omega) y4 rfl
 have s4 := zuY (y1, y2, y3, y4, ()) 595
 have e0 : zgM 600 ((y1, y2, y3, y4, ()), 0) = (Zg 600).L (599 + 1) ((y1, y2, y3, y4, ()), ((0 : Nat) : Int)) := rfl
 rw [e0, s0]
 by_cases h1 : y1 = 0
 case neg => exact ⟨.inl y1, if_neg h1, .inr ⟨by rw [show Zx [y1, y2, y3, y4] = y1 from if_neg h1]; exact h1, by rw [show Zx [y1, y2, y3, y4] = y1 from if_neg h1]⟩⟩
 rw [if_pos h1, show Zx [y1, y2, y3, y4] = Zx [y2, y3, y4] from if_pos h1]
 replace s1 := s1
 rw [show (Zg 600).L 599 ((y1, y2, y3, y4, ()), ((0 + 1 : Nat) : Int)) = _ from s1]
 by_cases h2 : y2 = 0
 case neg => exact ⟨.inl y2, if_neg h2, .inr ⟨by rw [show Zx [y2, y3, y4] = y2 from if_neg h2]; exact h2, by rw [show Zx [y2, y3, y4] = y2 from if_neg h2]⟩⟩
 rw [if_pos h2, show Zx [y2, y3, y4] = Zx [y3, y4] from if_pos h2]
 rw [show (Zg 600).L 598 ((y1, y2, y3, y4, ()), ((1 + 1 : Nat) : Int)) = _ from s2]
 by_cases h3 : y3 = 0
 case neg => exact ⟨.inl y3, if_neg h3, .inr ⟨by rw [show Zx [y3, y4] = y3 from if_neg h3]; exact h3, by rw [show Zx [y3, y4] = y3 from if_neg h3]⟩⟩
 rw [if_pos h3, show Zx [y3, y4] = Zx [y4] from if_pos h3]
 rw [show (Zg 600).L 597 ((y1, y2, y3, y4, ()), ((2 + 1 : Nat) : Int)) = _ from s3]
 by_cases h4 : y4 = 0
 case neg => exact ⟨.inl y4, if_neg h4, .inr ⟨by rw [show Zx [y4] = y4 from if_neg h4]; exact h4, by rw [show Zx [y4] = y4 from if_neg h4]⟩⟩
 rw [if_pos h4, show Zx [y4] = 0 from if_pos h4]
 exact ⟨.inr (), s4, .inl ⟨rfl, rfl⟩⟩
theorem srcr (p q : RT2) : zhY 600 (p, q) = some (Zx [cmS p.1 q.1, cmS p.2.1 q.2.1, cmS p.2.2.1 q.2.2.1, cmS p.2.2.2.1 q.2.2.2.1]) := by
 obtain ⟨y, h1, h2⟩ := or4 (cmS p.1 q.1) (cmS p.2.1 q.2.1) (cmS p.2.2.1 q.2.2.1) (cmS p.2.2.2.1 q.2.2.2.1)
 simp only [zhY, FSpec.d, zkW, zy3, h1]
 rcases h2 with ⟨h2, rfl⟩ | ⟨h2, rfl⟩
 ·rw [h2]
 ·rfl
end
section
def pr5 (y : RT5) (k : Nat) : Int × Int := match k with
 | 0 => (y.1, y.2.1)
 | 1 => (y.2.2.1, y.2.2.2.1)
 | 2 => (y.2.2.2.2.1, y.2.2.2.2.2.1)
 | 3 => (y.2.2.2.2.2.2.1, y.2.2.2.2.2.2.2.1)
 | _ => (y.2.2.2.2.2.2.2.2.1, y.2.2.2.2.2.2.2.2.2.1)
theorem zpY (y : RT5) (k f : Nat) (hk : k < 5) : (ji 600).L (f + 1) (y, (k : Int)) = (if cmI (pr5 y k).1 (pr5 y k).2 = 0 then (ji 600).L f (y, ((k + 1 : Nat) : Int)) else some (.inl (cmI (pr5 y k).1 (pr5 y k).2))) := by
 show (ji 600).b _ _ ((ji 600).L f) some = _
 obtain ⟨Lf, hLf⟩ : ∃ Lf, Lf = (ji 600).L f := ⟨_, rfl⟩
 rw [<- hLf]
 have hn' : ∃ r, ([(AV.v (.int .i64 y.1)), (AV.v (.int .i64 y.2.1)), (AV.v (.int .i64 y.2.2.1)), (AV.v (.int .i64 y.2.2.2.1)), (AV.v (.int .i64 y.2.2.2.2.1)), (AV.v (.int .i64 y.2.2.2.2.2.1)), (AV.v (.int .i64 y.2.2.2.2.2.2.1)), (AV.v (.int .i64 y.2.2.2.2.2.2.2.1)), (AV.v (.int .i64 y.2.2.2.2.2.2.2.2.1)), (AV.v (.int .i64 y.2.2.2.2.2.2.2.2.2.1))]).drop (k * 2) = AV.v (.int .i64 (pr5 y k).1) :: AV.v (.int .i64 (pr5 y k).2) :: r := by
  rcases (show k = 0 \/ k = 1 \/ k = 2 \/ k = 3 \/ k = 4 by omega) with rfl | rfl | rfl | rfl | rfl <;> exact ⟨_, rfl⟩
 obtain ⟨r, hn'⟩ := hn'
 have e1 : decide ((k : Int) < 5) = true := dT (by omega)
 have e2 : 0 <= (k : Int) /\ (k : Int) < 5 := by omega
 simp only [ji]
 simp only [e1, e2, decide_true, and_self, if_true, Int.toNat_natCast, hn', Zk k (by omega)]
 rcases Int.lt_trichotomy (pr5 y k).1 (pr5 y k).2 with h | h | h
 ·rw [zbe h, decide_eq_true h]
  exact (if_neg (by decide)).symm
 ·rw [h, zcB, decide_eq_false (by omega)]
  exact (if_pos rfl).symm
 ·rw [zbd h, decide_eq_false (by omega), decide_eq_true (show (pr5 y k).1 > (pr5 y k).2 from h)]
  exact (if_neg (by decide)).symm
theorem zuZ (y : RT5) (f : Nat) : (ji 600).L (f + 1) (y, 5) = some (.inr ()) := by
 show (ji 600).b _ _ ((ji 600).L f) some = _
 simp only [ji]
 rfl
theorem or5 (y : RT5) : ∃ z, zrM 600 (y, 0) = some z /\ ((Zx ((List.range' 0 5).map λ k => cmI (pr5 y k).1 (pr5 y k).2) = 0 /\ z = .inr ()) \/ (Zx ((List.range' 0 5).map λ k => cmI (pr5 y k).1 (pr5 y k).2) ≠ 0 /\ z = .inl (Zx ((List.range' 0 5).map λ k => cmI (pr5 y k).1 (pr5 y k).2)))) := by
 have key : ∀ (d k f : Nat), k + d = 5 -> d < f -> ∃ z, (ji 600).L f (y, (k : Int)) = some z /\ ((Zx ((List.range' k d).map λ k => cmI (pr5 y k).1 (pr5 y k).2) = 0 /\ z = .inr ()) \/ (Zx ((List.range' k d).map λ k => cmI (pr5 y k).1 (pr5 y k).2) ≠ 0 /\ z = .inl (Zx ((List.range' k d).map λ k => cmI (pr5 y k).1 (pr5 y k).2)))) := by
  intro d
  induction d with
  | zero =>
   intro k f hk hf
   obtain ⟨f, rfl⟩ := pS hf
   obtain rfl : k = 5 := by omega
   exact ⟨.inr (), zuZ y f, .inl ⟨rfl, rfl⟩⟩
  | succ d ih =>
   intro k f hk hf
   obtain ⟨f, rfl⟩ := pS hf
   obtain ⟨z, r1, r2⟩ := ih (k + 1) f (by omega) (by omega)
   rw [zpY y k f (by omega)]
   have e : ((List.range' k (d + 1)).map λ k => cmI (pr5 y k).1 (pr5 y k).2) = cmI (pr5 y k).1 (pr5 y k).2 :: ((List.range' (k + 1) d).map λ k => cmI (pr5 y k).1 (pr5 y k).2) := rfl
   rw [e]
   by_cases h : cmI (pr5 y k).1 (pr5 y k).2 = 0
   ·have e2 : Zx (cmI (pr5 y k).1 (pr5 y k).2 :: ((List.range' (k + 1) d).map λ k => cmI (pr5 y k).1 (pr5 y k).2)) = Zx ((List.range' (k + 1) d).map λ k => cmI (pr5 y k).1 (pr5 y k).2) := if_pos h
    rw [e2]
    exact ⟨z, (if_pos h).trans r1, r2⟩
   ·have e2 : Zx (cmI (pr5 y k).1 (pr5 y k).2 :: ((List.range' (k + 1) d).map λ k => cmI (pr5 y k).1 (pr5 y k).2)) = cmI (pr5 y k).1 (pr5 y k).2 := if_neg h
    rw [e2]
    exact ⟨_, if_neg h, .inr ⟨h, rfl⟩⟩
 exact key 5 0 600 rfl (by omega)
theorem zut (p q : RT1) : zpb 600 (p, q) = some (cE p q) := by
 have h1 : zhY 600 (j7 p, j7 q) = some (Zx (nsS p q)) := srcr _ _
 have hc : cE p q = if Zx (nsS p q) = 0 then Zx (nsI p q) else Zx (nsS p q) := by
  rw [zyY, <- zcK]; rfl
 obtain ⟨z, h2, h3⟩ := or5 (p.2.2.2.2.1, q.2.2.2.2.1, p.2.2.2.2.2.1, q.2.2.2.2.2.1, p.2.2.2.2.2.2.1, q.2.2.2.2.2.2.1, p.2.2.2.2.2.2.2.1, q.2.2.2.2.2.2.2.1, p.2.2.2.2.2.2.2.2.1, q.2.2.2.2.2.2.2.2.1, ())
 have e : ((List.range' 0 5).map λ k => cmI (pr5 (p.2.2.2.2.1, q.2.2.2.2.1, p.2.2.2.2.2.1, q.2.2.2.2.2.1, p.2.2.2.2.2.2.1, q.2.2.2.2.2.2.1, p.2.2.2.2.2.2.2.1, q.2.2.2.2.2.2.2.1, p.2.2.2.2.2.2.2.2.1, q.2.2.2.2.2.2.2.2.1, ()) k).1 (pr5 (p.2.2.2.2.1, q.2.2.2.2.1, p.2.2.2.2.2.1, q.2.2.2.2.2.1, p.2.2.2.2.2.2.1, q.2.2.2.2.2.2.1, p.2.2.2.2.2.2.2.1, q.2.2.2.2.2.2.2.1, p.2.2.2.2.2.2.2.2.1, q.2.2.2.2.2.2.2.2.1, ()) k).2) = nsI p q := rfl
 rw [e] at h3
 simp only [zpb, FSpec.d, zt6, h1]
 by_cases hz : Zx (nsS p q) = 0
 ·have e1 : (Zx (nsS p q) != 0) = false := by simp [hz]
  simp only [e1, h2]
  rw [hc, if_pos hz]
  rcases h3 with ⟨h3, rfl⟩ | ⟨h3, rfl⟩
  ·rw [h3]
  ·rfl
 ·have e1 : (Zx (nsS p q) != 0) = true := by simp [hz]
  simp only [e1]
  rw [hc, if_neg hz]
def cT (p q : RT1) : Int := if cmI (tmP p) (tmP q) = 0 then cE p q else cmI (tmP p) (tmP q)
theorem zy4 (p q : RT1) : zmS 600 (p, q) = some (cT p q) := by
 have h := zu1 [cmI (tmP p) (tmP q), cE p q] (by simp)
 have e : Zx [cmI (tmP p) (tmP q), cE p q] = cT p q := by
  by_cases h : cmI (tmP p) (tmP q) = 0
  ·rw [show Zx [cmI (tmP p) (tmP q), cE p q] = Zx [cE p q] from if_pos h, show cT p q = cE p q from if_pos h]
   by_cases h2 : cE p q = 0
   ·rw [show Zx [cE p q] = 0 from if_pos h2, h2]
   ·exact if_neg h2
  ·rw [show Zx [cmI (tmP p) (tmP q), cE p q] = cmI (tmP p) (tmP q) from if_neg h, show cT p q = cmI (tmP p) (tmP q) from if_neg h]
 rw [e] at h
 simp only [zmS, FSpec.d, zt0, zrZ, zus]
 replace h : za3 600 [[AV.v (.int .i64 (cmI p.2.2.2.2.1 q.2.2.2.2.1))], [AV.v (.int .i64 (cE p q))]] = some (cT p q) := h
 simp only [h]
theorem zy5 (p q : RT1) : zo6 600 (p, q) = some (cT p q) := by
 simp only [zo6, FSpec.d, ztK, zut]
 unfold cT
 rcases Int.lt_trichotomy (tmP p) (tmP q) with h | h | h
 ·rw [zbe h, decide_eq_true h]; rfl
 ·rw [h, zcB, decide_eq_false (by simp only [tmP] at h; omega), decide_eq_false (by simp only [tmP] at h; omega)]; rfl
 ·rw [zbd h, decide_eq_false (by simp only [tmP] at h; omega), decide_eq_true (show p.2.2.2.2.1 > q.2.2.2.2.1 from h)]; rfl
def znS (m : RT1) : List RT1 -> RT1
 | [] => m
 | p :: r => znS (if cT p m < 0 then p else m) r
theorem zkf (P : List RT1) (hP : P.length <= 500) (c : RT1) : ∀ (d k f : Nat) (m : RT1), k + d = P.length -> d < f -> (jP 600).L f (P.map zh, (k : Int), c, m) = some (c, znS m (P.drop k)) := by
 intro d
 induction d with
 | zero =>
  intro k f m hk hf
  obtain ⟨f, rfl⟩ := pS hf
  rw [List.drop_eq_nil_of_le (by omega)]
  show (jP 600).b _ _ ((jP 600).L f) some = _
  have e2 := ltF k P.length (by omega)
  simp only [jP]
  simp only [List.length_map, e2, znS]
 | succ d ih =>
  intro k f m hk hf
  obtain ⟨f, rfl⟩ := pS hf
  have hkl : k < P.length := by omega
  have r1 := ih (k + 1) f (if cT P[k] m < 0 then P[k] else m) (by omega) (by omega)
  rw [List.drop_eq_getElem_cons hkl]
  show (jP 600).b _ _ ((jP 600).L f) some = _
  generalize (jP 600).L f = Lf at r1 |-
  have e2 := ltT k P.length (by omega)
  have h0 := nnI k
  simp only [jP]
  simp only [List.length_map, e2, h0, if_true, Int.toNat_natCast, zae P k hkl, zI, zy5, Zk k (by omega), znS]
  by_cases h : cT P[k] m < 0
  ·rw [if_pos h] at r1 |-
   simp only [h, decide_true]
   exact r1
  ·rw [if_neg h] at r1 |-
   simp only [h, decide_false]
   exact r1
theorem zke (P : List RT1) (hP : P.length <= 500) (c : RT1) : ∀ (d k f : Nat) (m : RT1), k + d = P.length -> d < f -> (ZQ 600).L f (P.map zh, (k : Int), c, m) = some (c, znS m (P.drop k)) := by
 intro d
 induction d with
 | zero =>
  intro k f m hk hf
  obtain ⟨f, rfl⟩ := pS hf
  rw [List.drop_eq_nil_of_le (by omega)]
  show (ZQ 600).b _ _ ((ZQ 600).L f) some = _
  have e2 := ltF k P.length (by omega)
  simp only [ZQ]
  simp only [List.length_map, e2, znS]
 | succ d ih =>
  intro k f m hk hf
  obtain ⟨f, rfl⟩ := pS hf
  have hkl : k < P.length := by omega
  have r1 := ih (k + 1) f (if cT P[k] m < 0 then P[k] else m) (by omega) (by omega)
  rw [List.drop_eq_getElem_cons hkl]
  show (ZQ 600).b _ _ ((ZQ 600).L f) some = _
  generalize (ZQ 600).L f = Lf at r1 |-
  have e2 := ltT k P.length (by omega)
  have h0 := nnI k
  simp only [ZQ]
  simp only [List.length_map, e2, h0, if_true, Int.toNat_natCast, zae P k hkl, zI, zy4, Zk k (by omega), znS]
  by_cases h : cT P[k] m < 0
  ·rw [if_pos h] at r1 |-
   simp only [h, decide_true]
   exact r1
  ·rw [if_neg h] at r1 |-
   simp only [h, decide_false]
   exact r1
def nmF : List RT1 -> RT1
 | [] => ((⟨#[]⟩ : ByteArray), (⟨#[]⟩ : ByteArray), (⟨#[]⟩ : ByteArray), (⟨#[]⟩ : ByteArray), 0, 0, 0, 0, 0, ())
 | p :: r => znS p r
theorem zzw (P : List RT1) (h0 : P ≠ []) (hP : P.length <= 500) : ztE 600 (P.map zh) = some (nmF P) := by
 have hp := List.length_pos_iff.2 h0
 obtain ⟨p, r, rfl⟩ := List.exists_cons_of_ne_nil h0
 have h1 := zkf (p :: r) hP ((⟨#[]⟩ : ByteArray), (⟨#[]⟩ : ByteArray), (⟨#[]⟩ : ByteArray), (⟨#[]⟩ : ByteArray), 0, 0, 0, 0, 0, ()) r.length 1 600 p (by simp; omega) (by simp at hP; omega)
 replace h1 : (jP 600).L 600 ((p :: r).map zh, 1, ((⟨#[]⟩ : ByteArray), (⟨#[]⟩ : ByteArray), (⟨#[]⟩ : ByteArray), (⟨#[]⟩ : ByteArray), 0, 0, 0, 0, 0, ()), p) = some (((⟨#[]⟩ : ByteArray), (⟨#[]⟩ : ByteArray), (⟨#[]⟩ : ByteArray), (⟨#[]⟩ : ByteArray), 0, 0, 0, 0, 0, ()), nmF (p :: r)) := h1
 have e1 : ((p :: r).map zh)[(0 : Int).toNat]? = some (zh p) := rfl
 have e0 : (0 : Int) <= 0 := by omega
 simp only [ztE, FSpec.d, ztF, zrx, e0, if_true, e1, zI, h1]
theorem zzv (P : List RT1) (hP : P.length <= 500) : ztY 600 (P.map zh) = some (nmF P) := by
 by_cases h0 : P = []
 ·subst h0; kernel_rfl
 have hp := List.length_pos_iff.2 h0
 obtain ⟨p, r, rfl⟩ := List.exists_cons_of_ne_nil h0
 have h1 := zke (p :: r) hP ((⟨#[]⟩ : ByteArray), (⟨#[]⟩ : ByteArray), (⟨#[]⟩ : ByteArray), (⟨#[]⟩ : ByteArray), 0, 0, 0, 0, 0, ()) r.length 1 600 p (by simp; omega) (by simp at hP; omega)
 replace h1 : (ZQ 600).L 600 ((p :: r).map zh, 1, ((⟨#[]⟩ : ByteArray), (⟨#[]⟩ : ByteArray), (⟨#[]⟩ : ByteArray), (⟨#[]⟩ : ByteArray), 0, 0, 0, 0, 0, ()), p) = some (((⟨#[]⟩ : ByteArray), (⟨#[]⟩ : ByteArray), (⟨#[]⟩ : ByteArray), (⟨#[]⟩ : ByteArray), 0, 0, 0, 0, 0, ()), nmF (p :: r)) := h1
 have e1 : ((p :: r).map zh)[(0 : Int).toNat]? = some (zh p) := rfl
 have e0 : (0 : Int) <= 0 := by omega
 have e2 : (((p :: r).length : Int) == 0) = false := by simp; omega
 have e3 : decide (((p :: r).length : Int) < 1) = false := by rw [decide_eq_false_iff_not]; simp; omega
 have h2 : zkG 600 ((p :: r).map zh) = some (nmF (p :: r)) := by
  simp only [zkG, FSpec.d, zkJ, zkH, List.length_map, e3, e0, if_true, e1, zI, h1]
 simp only [ztY, FSpec.d, ztZ, List.length_map, e2, h2]
def zas : List RT1 -> Bool
 | a :: b :: r => (cE a b == -1) && zas (b :: r)
 | _ => true
theorem zyX (a b : RT1) : decide (cE a b >= 0) = !(cE a b == -1) := by
 rcases Cm.pick.vals a b with h | h | h <;> rw [h] <;> rfl
theorem zhP (P : List RT1) (hP : P.length <= 500) : ∀ (d k f : Nat), k + 1 + d = P.length -> d < f -> ∃ y, (Z5 600).L f (P.map zh, ((k + 1 : Nat) : Int)) = some y /\ ((zas (P.drop k) = true /\ y = .inr ()) \/ (zas (P.drop k) = false /\ y = .inl false)) := by
 intro d
 induction d with
 | zero =>
  intro k f hk hf
  obtain ⟨f, rfl⟩ := pS hf
  have hkl : k < P.length := by omega
  refine ⟨.inr (), ?_, .inl ⟨?_, rfl⟩⟩
  ·show (Z5 600).b _ _ ((Z5 600).L f) some = _
   have e2 : decide (((k + 1 : Nat) : Int) < (P.length : Int)) = false := dF (by omega)
   simp only [Z5]
   simp only [List.length_map, e2]
  ·rw [List.drop_eq_getElem_cons hkl, List.drop_eq_nil_of_le (by omega)]
   rfl
 | succ d ih =>
  intro k f hk hf
  obtain ⟨f, rfl⟩ := pS hf
  have hkl : k < P.length := by omega
  have hkl' : k + 1 < P.length := by omega
  obtain ⟨y, r1, r2⟩ := ih (k + 1) f (by omega) (by omega)
  have e2 : decide (((k + 1 : Nat) : Int) < (P.length : Int)) = true := dT (by omega)
  have h0 : 0 <= ((k + 1 : Nat) : Int) := by omega
  have h0' : 0 <= (k : Int) := by omega
  have e3 : i64 (((k + 1 : Nat) : Int) - 1) = (k : Int) := by rw [zW (by omega)]; omega
  have ed : zas (P.drop k) = ((cE P[k] P[k + 1] == -1) && zas (P.drop (k + 1))) := by
   rw [List.drop_eq_getElem_cons hkl, List.drop_eq_getElem_cons hkl']
   rfl
  rw [ed]
  cases hc : cE P[k] P[k + 1] == -1 with
  | false =>
   refine ⟨.inl false, ?_, .inr ⟨rfl, rfl⟩⟩
   show (Z5 600).b _ _ ((Z5 600).L f) some = _
   simp only [Z5]
   simp only [List.length_map, e2, e3, h0, h0', if_true, Int.toNat_natCast, zae P k hkl, zae P (k + 1) hkl', zI, zus, zyX, hc, Bool.not_false]
  | true =>
   refine ⟨y, ?_, r2⟩
   show (Z5 600).b _ _ ((Z5 600).L f) some = _
   generalize (Z5 600).L f = Lf at r1 |-
   simp only [Z5]
   simp only [List.length_map, e2, e3, h0, h0', if_true, Int.toNat_natCast, zae P k hkl, zae P (k + 1) hkl', zI, zus, zyX, hc, Bool.not_true, zbJ (show k + 1 < 1000000 by omega)]
   exact r1
theorem zqr (P : List RT1) (h0 : P ≠ []) (hP : P.length <= 500) : ztW 600 (P.map zh) = some (zas P) := by
 have hp := List.length_pos_iff.2 h0
 obtain ⟨y, h1, h2⟩ := zhP P hP (P.length - 1) 0 600 (by omega) (by omega)
 rw [List.drop_zero] at h2
 replace h1 : (Z5 600).L 600 (P.map zh, 1) = some y := h1
 simp only [ztW, FSpec.d, ztX, zrJ, h1]
 rcases h2 with ⟨h2, rfl⟩ | ⟨h2, rfl⟩ <;> rw [h2]
theorem zoo : ∀ {a : RT1} {P : List RT1}, zas (a :: P) = true -> (∀ p ∈ P, cE a p = -1) /\ zas P = true
 | a, [], _ => ⟨λ p h => (by cases h), rfl⟩
 | a, b :: r, h => by
  have h' : ((cE a b == -1) && zas (b :: r)) = true := h
  rw [Bool.and_eq_true, beq_iff_eq] at h'
  obtain ⟨h1, h2⟩ := h'
  refine ⟨λ p hp => ?_, h2⟩
  rcases List.mem_cons.1 hp with rfl | hp
  ·exact h1
  ·exact Cm.pick.trans _ _ _ h1 ((zoo h2).1 p hp)
theorem zgA : ∀ {P : List RT1}, zas P = true -> P.Pairwise λ a b => a ≠ b
 | [], _ => .nil
 | a :: P, h => by
  obtain ⟨h1, h2⟩ := zoo h
  refine .cons (λ b hb e => ?_) (zgA h2)
  have h3 := h1 b hb
  rw [e, (Cm.pick.zero b b).2 rfl] at h3
  cases h3
end
section
theorem zc6 {α : Type} : ∀ (vs A M B : List α), M.length = vs.length -> splice (A ++ (M ++ B)) A.length vs = A ++ (vs ++ B)
 | [], A, M, B, h => by
  have : M = [] := List.length_eq_zero_iff.1 h
  subst this; rfl
 | v :: r, A, m :: M, B, h => by
  have ih := zc6 r (A ++ [v]) M B (by simpa using h)
  show splice ((A ++ (m :: M ++ B)).set A.length v) (A.length + 1) r = _
  rw [List.set_append_right _ _ (Nat.le_refl _), Nat.sub_self]
  have e : A ++ (m :: M ++ B).set 0 v = (A ++ [v]) ++ (M ++ B) := by simp
  have e2 : A.length + 1 = (A ++ [v]).length := by simp
  rw [e, e2, ih]
  simp
theorem zuI (O : List RT1) (x : RT1) (k : Nat) (hk : k <= O.length) : splice (splice (fl zh (O ++ [x])) ((k + 1) * 9) (((fl zh (O ++ [x])).drop (k * 9)).take ((O.length - k) * 9))) (k * 9) (zh x) = fl zh (O.take k ++ x :: O.drop k) := by
 have hA : (O.take k).length = k := by simp; omega
 have hB : (O.drop k).length = O.length - k := by simp
 have app : ∀ A B : List RT1, fl zh (A ++ B) = fl zh A ++ fl zh B := λ A B => by simp [fl]
 have one : ∀ (a : RT1) (B : List RT1), fl zh (a :: B) = zh a ++ fl zh B := λ a B => by simp [fl]
 obtain ⟨A, hAd⟩ : ∃ A, A = O.take k := ⟨_, rfl⟩
 obtain ⟨B, hBd⟩ : ∃ B, B = O.drop k := ⟨_, rfl⟩
 have hO : O = A ++ B := by rw [hAd, hBd, List.take_append_drop]
 rw [<- hAd] at hA |-
 rw [<- hBd] at hB |-
 have lA : (fl zh A).length = k * 9 := by rw [zfe, hA]
 have lB : (fl zh B).length = (O.length - k) * 9 := by rw [zfe, hB]
 have hX : fl zh (O ++ [x]) = fl zh A ++ (fl zh B ++ zh x) := by rw [hO, List.append_assoc, app, app, one]; simp [fl]
 rw [hX]
 have d1 : (fl zh A ++ (fl zh B ++ zh x)).drop (k * 9) = fl zh B ++ zh x := by rw [<- lA, List.drop_left]
 rw [d1, <- lB, List.take_left]
 -- the row's first cells, and what lies behind
 obtain ⟨M, N', e1, e2⟩ : ∃ M N' : List AV, fl zh B ++ zh x = M ++ N' /\ M.length = 9 := ⟨(fl zh B ++ zh x).take 9, (fl zh B ++ zh x).drop 9, (List.take_append_drop 9 _).symm, by simp [Zn]⟩
 have e3 : N'.length = (fl zh B).length := by
  have := congrArg List.length e1
  simp only [List.length_append, Zn] at this
  omega
 rw [e1]
 have s1 := zc6 (fl zh B) (fl zh A ++ M) N' [] e3
 have l1 : (fl zh A ++ M).length = (k + 1) * 9 := by rw [List.length_append, lA, e2]; omega
 rw [l1, List.append_nil, List.append_nil, List.append_assoc] at s1
 rw [s1, List.append_assoc]
 have s2 := zc6 (zh x) (fl zh A) M (fl zh B) (by rw [e2, Zn])
 rw [lA] at s2
 rw [s2, app, one]
open Classical in
noncomputable def znJ (x : RT1) (O : List RT1) (k : Nat) : List RT1 := if 0 < k /\ O[k - 1]? = some x then O else O.take k ++ x :: O.drop k
theorem zkh (P O : List RT1) (i : Nat) (hi : i < P.length) (hP : P.length <= 500) (hO : O.length <= 500) : ∀ (k f : Nat), k <= O.length -> k < f -> ∃ k', k' <= k /\ (ZB 600).L f (P.map zh, O.length, (i : Int), (k : Int), fl zh O) = some (P.map zh, O.length, (i : Int), (k' : Int), fl zh O) /\ (∀ h : k' - 1 < O.length, 0 < k' -> ¬ cE O[k' - 1] P[i] > 0) /\ (∀ j (h : j < O.length), k' <= j -> j < k -> cE O[j] P[i] > 0) := by
 intro k
 induction k with
 | zero =>
  intro f hk hf
  obtain ⟨f, rfl⟩ := pS hf
  refine ⟨0, Nat.le_refl _, ?_, λ _ h => by omega, λ j _ h1 h2 => by omega⟩
  show (ZB 600).b _ _ ((ZB 600).L f) some = _
  have e1 : decide (((0 : Nat) : Int) > 0) = false := by decide
  simp only [ZB]
  simp only [e1, fl1]
 | succ k ih =>
  intro f hk hf
  obtain ⟨f, rfl⟩ := pS hf
  have e1 : decide (((k + 1 : Nat) : Int) > 0) = true := dT (by omega)
  have e2 : i64 (((k + 1 : Nat) : Int) - 1) = (k : Int) := by rw [zW (by omega)]; omega
  have e3 : 0 <= (k : Int) /\ (k : Int) < (O.length : Int) := by omega
  have h0 := nnI i
  have hd : (fl zh O).drop ((0 + k) * 9) = zh O[k] ++ fl zh (O.drop (k + 1)) := by
   have := zcE zh 9 Zn O k 0 (by omega) (by omega)
   rw [Nat.zero_add]
   exact this
  have hr : jk ((fl zh O).drop ((0 + k) * 9)) = some O[k] := by rw [hd]; exact zbx _ _
  by_cases h : cE O[k] P[i] > 0
  ·obtain ⟨k', c1, c2, c3, c4⟩ := ih f (by omega) (by omega)
   refine ⟨k', by omega, ?_, c3, λ j hj h1 h2 => ?_⟩
   ·show (ZB 600).b _ _ ((ZB 600).L f) some = _
    generalize (ZB 600).L f = Lf at c2 |-
    simp only [ZB]
    simp only [e1, e2, e3, h0, and_self, if_true, Int.toNat_natCast, hr, zae P i hi, zI, zut, h, decide_true, fl1]
    exact c2
   ·by_cases hj2 : j = k
    ·subst hj2; exact h
    ·exact c4 j hj h1 (by omega)
  ·refine ⟨k + 1, Nat.le_refl _, ?_, λ _ _ => h, λ j _ h1 h2 => by omega⟩
   show (ZB 600).b _ _ ((ZB 600).L f) some = _
   simp only [ZB]
   simp only [e1, e2, e3, h0, and_self, if_true, Int.toNat_natCast, hr, zae P i hi, zI, zut, h, decide_false, fl1]
theorem J2 : ∀ (A B : List RT1), zas (A ++ B) = true ↔ zas A = true /\ zas B = true /\ ∀ a b, A.getLast? = some a -> B.head? = some b -> cE a b = -1
 | [], B => ⟨λ h => ⟨rfl, h, λ a b h => by cases h⟩, λ h => h.2.1⟩
 | [a], [] => ⟨λ _ => ⟨rfl, rfl, λ a b _ h => by cases h⟩, λ _ => rfl⟩
 | [a], b :: r => by
  show ((cE a b == -1) && zas (b :: r)) = true ↔ _
  rw [Bool.and_eq_true, beq_iff_eq]
  constructor
  ·rintro ⟨h1, h2⟩
   refine ⟨rfl, h2, λ a' b' ha hb => ?_⟩
   cases ha; cases hb; exact h1
  ·rintro ⟨-, h2, h3⟩
   exact ⟨h3 a b rfl rfl, h2⟩
 | a :: c :: A, B => by
  have ih := J2 (c :: A) B
  show ((cE a c == -1) && zas (c :: A ++ B)) = true ↔ ((cE a c == -1) && zas (c :: A)) = true /\ _
  rw [Bool.and_eq_true, Bool.and_eq_true, ih]
  have e : (a :: c :: A).getLast? = (c :: A).getLast? := by simp [List.getLast?_cons]
  rw [e]
  constructor
  ·rintro ⟨h1, h2, h3, h4⟩; exact ⟨⟨h1, h2⟩, h3, h4⟩
  ·rintro ⟨⟨h1, h2⟩, h3, h4⟩; exact ⟨h1, h2, h3, h4⟩
theorem znM {α : Type} (O : List α) (k : Nat) (hk : k <= O.length) (h0 : 0 < k) : (O.take k).getLast? = O[k - 1]? := by
 rw [List.getLast?_eq_getElem?, List.length_take, Nat.min_eq_left hk, List.getElem?_take, if_pos (by omega)]
theorem zpM {x : RT1} {O : List RT1} {k : Nat} (hk : k <= O.length) (hO : zas O = true) (h1 : ∀ h : k - 1 < O.length, 0 < k -> ¬ cE O[k - 1] x > 0) (h2 : ∀ h : k < O.length, cE O[k] x > 0) : zas (znJ x O k) = true := by
 unfold znJ
 split
 ·exact hO
 ·rename_i hne
  rw [<- List.take_append_drop k O, J2] at hO
  obtain ⟨o1, o2, o3⟩ := hO
  rw [J2]
  refine ⟨o1, ?_, λ a b ha hb => ?_⟩
  ·rw [show x :: O.drop k = [x] ++ O.drop k from rfl, J2]
   refine ⟨rfl, o2, λ a b ha hb => ?_⟩
   obtain rfl : x = a := Option.some.inj ha
   rw [List.head?_drop] at hb
   obtain ⟨hl, rfl⟩ := List.getElem?_eq_some_iff.1 hb
   have := h2 hl
   have h3 := Cm.pick.anti O[k] x
   rcases Cm.pick.vals O[k] x with v | v | v <;> omega
  ·obtain rfl : x = b := Option.some.inj hb
   by_cases h0 : 0 < k
   ·rw [znM O k hk h0] at ha
    obtain ⟨hl, rfl⟩ := List.getElem?_eq_some_iff.1 ha
    have h3 := h1 hl h0
    rcases Cm.pick.vals O[k - 1] x with v | v | v
    ·exact v
    ·exact absurd ⟨h0, by rw [ha, (Cm.pick.zero _ _).1 v]⟩ hne
    ·omega
   ·obtain rfl : k = 0 := by omega
    cases ha
theorem zpL (x : RT1) (O : List RT1) (k : Nat) (hk : k <= O.length) : (znJ x O k).length <= O.length + 1 := by
 unfold znJ
 split
 ·omega
 ·simp; omega
theorem zpK {x : RT1} {O : List RT1} {k : Nat} (hk : k <= O.length) (hs : zas (O ++ [x]) = true) (h2 : ∀ j (h : j < O.length), k <= j -> cE O[j] x > 0) : znJ x O k = O ++ [x] := by
 have hO := (J2 O [x]).1 hs
 have key : ∀ j (h : j < O.length), cE O[j] x = -1 := λ j h => by
  have h3 : zas (O.drop j ++ [x]) = true := by
   rw [<- List.take_append_drop j O, List.append_assoc, J2] at hs
   exact hs.2.1
  rw [List.drop_eq_getElem_cons h] at h3
  exact (zoo h3).1 x (by simp)
 have hkl : k = O.length := by
  by_cases h : k < O.length
  ·have := h2 k h (Nat.le_refl _)
   rw [key k h] at this
   omega
  ·omega
 subst hkl
 unfold znJ
 rw [if_neg, List.take_length, List.drop_length]
 rintro ⟨h0, h⟩
 obtain ⟨hl, he⟩ := List.getElem?_eq_some_iff.1 h
 have := key _ hl
 rw [he, (Cm.pick.zero x x).2 rfl] at this
 omega
end
section
theorem zol (P O : List RT1) (i : Nat) (hi : i < P.length) (hP : P.length <= 500) (hO : O.length <= 500) (f : Nat) : ∃ k, k <= O.length /\ (∀ h : k - 1 < O.length, 0 < k -> ¬ cE O[k - 1] P[i] > 0) /\ (∀ j (h : j < O.length), k <= j -> cE O[j] P[i] > 0) /\ (jh 600).L (f + 1) (O.length, P.map zh, (i : Int), fl zh O) = (jh 600).L f ((znJ P[i] O k).length, P.map zh, ((i + 1 : Nat) : Int), fl zh (znJ P[i] O k)) := by
 obtain ⟨k, k1, k2, k3, k4⟩ := zkh P O i hi hP hO O.length 600 (Nat.le_refl _) (by omega)
 refine ⟨k, k1, k3, λ j h h1 => k4 j h h1 h, ?_⟩
 show (jh 600).b _ _ ((jh 600).L f) some = _
 obtain ⟨Lf, hLf⟩ : ∃ Lf, Lf = (jh 600).L f := ⟨_, rfl⟩
 rw [<- hLf]
 have e1 := ltT i P.length (by omega)
 have h0 := nnI i
 have hk0 := nnI k
 have t1 : (fl zh O).take (O.length * 9) ++ [zh P[i]].flatten = fl zh (O ++ [P[i]]) := by
  rw [ze3 zh 9 Zn O O.length rfl, <- znt]; simp
 have lX : (fl zh (O ++ [P[i]])).length = (O.length + 1) * 9 := by rw [zfe]; simp
 have b1 : O.length * 9 <= (fl zh O).length /\ (O.length + [zh P[i]].length) * 104 <= zd := by
  rw [zfe]; unfold zd; simp; omega
 have b2 : 0 <= i64 ((k : Int) + 1) /\ i64 ((k : Int) + 1) <= (((O.length + [zh P[i]].length) : Nat) : Int) := by
  rw [Zk k (by omega)]; simp; omega
 have b3 : 0 <= (k : Int) /\ (k : Int) <= (((O.length + [zh P[i]].length) : Nat) : Int) := by simp; omega
 have b4 : ((0 + k) + ((O.length + [zh P[i]].length) - k)) * 9 <= (fl zh (O ++ [P[i]])).length := by rw [lX]; simp; omega
 have b5 : ((0 + (k + 1)) + ((O.length + [zh P[i]].length) - (k + 1))) * 9 <= (fl zh (O ++ [P[i]])).length := by rw [lX]; simp; omega
 have b6 : 0 <= (k : Int) /\ (k : Int) < (((O.length + [zh P[i]].length) : Nat) : Int) := by simp; omega
 have em : Nat.min ((O.length + [zh P[i]].length) - k) ((O.length + [zh P[i]].length) - (k + 1)) = O.length - k := by
  show min _ _ = _
  simp; omega
 have hb := zuI O P[i] k k1
 have ek : (0 + k) * 9 = k * 9 := by rw [Nat.zero_add]
 have ek1 : (0 + (k + 1)) * 9 = (k + 1) * 9 := by rw [Nat.zero_add]
 have b7 : (0 + k) * 9 + 9 <= (splice (fl zh (O ++ [P[i]])) ((k + 1) * 9) (((fl zh (O ++ [P[i]])).drop (k * 9)).take ((O.length - k) * 9))).length := by
  rw [zB, lX]; omega
 have hs : ¬ (0 < k /\ O[k - 1]? = some P[i]) -> (znJ P[i] O k) = O.take k ++ P[i] :: O.drop k := λ h => if_neg h
 have hln : ¬ (0 < k /\ O[k - 1]? = some P[i]) -> (znJ P[i] O k).length = O.length + [zh P[i]].length := λ h => by
  rw [hs h]; simp; omega
 have hn1 : i64 ((k : Int) + 1) = ((k + 1 : Nat) : Int) := Zk k (by omega)
 have hn2 : i64 ((i : Int) + 1) = ((i + 1 : Nat) : Int) := Zk i (by omega)
 have b2' := b2
 rw [hn1] at b2'
 simp only [jh]
 simp only [List.length_map, e1, fl1, zmt, k2]
 by_cases c0 : (k : Int) > 0
 ·have c1 : i64 ((k : Int) - 1) = ((k - 1 : Nat) : Int) := by rw [zW (by omega)]; omega
  have c2 : 0 <= ((k - 1 : Nat) : Int) /\ ((k - 1 : Nat) : Int) < (O.length : Int) := by omega
  have hkl : k - 1 < O.length := by omega
  have hr : jk ((fl zh O).drop ((0 + (k - 1)) * 9)) = some O[k - 1] := by
   have := zcE zh 9 Zn O (k - 1) 0 hkl (by omega)
   rw [Nat.zero_add, show (k - 1) * 9 = (k - 1) * 9 + 0 from rfl, this]
   exact zbx _ _
  simp only [c0, decide_true, c1, c2, h0, and_self, if_true, Int.toNat_natCast, hr, zae P i hi, zI]
  by_cases he : O[k - 1] = P[i]
  ·have e5 : eqP O[k - 1] P[i] = true := by rw [he]; exact Jf _
   have e6 : znJ P[i] O k = O := if_pos ⟨by omega, by rw [List.getElem?_eq_getElem hkl, he]⟩
   simp only [e5, hn2, fl1]
   rw [e6]
  ·have e5 : eqP O[k - 1] P[i] = false := JM he
   have hc : ¬ (0 < k /\ O[k - 1]? = some P[i]) := λ h => he (by
    have := h.2
    rw [List.getElem?_eq_getElem hkl] at this
    exact Option.some.inj this)
   simp only [e5, h0, if_true, Int.toNat_natCast, zae P i hi, zI, b1, and_self, b2, b3, hn1, t1]
   simp only [em, ek, ek1] at b4 b5 b7 |-
   simp only [b4, b5, b6, if_true, and_self, b7, hb, fl1, hn2]
   rw [hln hc, hs hc]
   exact (if_pos b2').trans (if_pos trivial)
 ·have c3 : decide ((k : Int) > 0) = false := by rw [decide_eq_false_iff_not]; exact c0
  have hc : ¬ (0 < k /\ O[k - 1]? = some P[i]) := λ h => c0 (by omega)
  simp only [c3, h0, if_true, Int.toNat_natCast, zae P i hi, zI, b1, and_self, b2, b3, hn1, t1]
  simp only [em, ek, ek1] at b4 b5 b7 |-
  simp only [b4, b5, b6, if_true, and_self, b7, hb, fl1, hn2]
  rw [hln hc, hs hc]
  exact (if_pos b2').trans (if_pos trivial)
theorem zok (P : List RT1) (hP : P.length <= 250) : ∀ (d i f : Nat) (O : List RT1), i + d = P.length -> d < f -> O.length <= i -> zas O = true -> (zas (P.take i) = true -> O = P.take i) -> ∃ O' : List RT1, (jh 600).L f (O.length, P.map zh, (i : Int), fl zh O) = some (O'.length, fl zh O') /\ O'.length <= P.length /\ zas O' = true /\ (zas P = true -> O' = P) := by
 intro d
 induction d with
 | zero =>
  intro i f O hk hf hl hs ht
  obtain ⟨f, rfl⟩ := pS hf
  rw [List.take_of_length_le (by omega)] at ht
  refine ⟨O, ?_, by omega, hs, ht⟩
  show (jh 600).b _ _ ((jh 600).L f) some = _
  have e2 := ltF i P.length (by omega)
  simp only [jh]
  simp only [List.length_map, e2, fl1]
 | succ d ih =>
  intro i f O hk hf hl hs ht
  obtain ⟨f, rfl⟩ := pS hf
  have hi : i < P.length := by omega
  obtain ⟨k, k1, k2, k3, k4⟩ := zol P O i hi (by omega) (by omega) f
  rw [k4]
  refine ih (i + 1) f _ (by omega) (by omega) (by have := zpL P[i] O k k1; omega) (zpM k1 hs k2 λ h => k3 k h (Nat.le_refl _)) λ h => ?_
  rw [List.take_succ_eq_append_getElem hi] at h |-
  have e := ht ((J2 _ _).1 h).1
  rw [<- e] at h |-
  exact zpK k1 h k3
theorem zAf (P : List RT1) (hP : P.length <= 250) : ∃ O : List RT1, ztH 600 (P.map zh) = some (O.map zh) /\ O.length <= P.length /\ (zas P = true ↔ P = O) := by
 obtain ⟨O, h1, h2, h3, h4⟩ := zok P hP P.length 0 600 [] (by omega) (by omega) (Nat.le_refl _) rfl (λ _ => by simp)
 replace h1 : (jh 600).L 600 (0, P.map zh, 0, []) = some (O.length, fl zh O) := h1
 refine ⟨O, ?_, h2, λ h => (h4 h).symm, λ h => by rw [h]; exact h3⟩
 have b1 : O.length * 9 <= (fl zh O).length := by rw [zfe]; omega
 simp only [ztH, FSpec.d, ztJ, zrB, h1, b1, if_true, Jh zh 9 Zn (λ _ => rfl) O O.length rfl]
def evB (e : RT0) (P : List RT1) : Bool := !(P.isEmpty) && (zas P && eqP (nmE e) (nmF P))
end
section
open Classical
def All (p : Nat -> Prop) (k n : Nat) : Prop := ∀ j, k <= j -> j < n -> p j
theorem All.nil (p : Nat -> Prop) (n : Nat) : All p n n := λ j h1 h2 => by omega
theorem All.step {p : Nat -> Prop} {k n : Nat} (h : p k) : All p k n ↔ All p (k + 1) n :=
 ⟨λ a j h1 h2 => a j (by omega) h2, λ a j h1 h2 => by
  rcases Nat.eq_or_lt_of_le h1 with rfl | h1
  ·exact h
  ·exact a j h1 h2⟩
theorem All.no {p : Nat -> Prop} {k n : Nat} (hk : k < n) (h : ¬ p k) : ¬ All p k n := λ a => h (a k (Nat.le_refl _) hk)
theorem All.ite {p : Nat -> Prop} {k n : Nat} (h : p k) {α : Type} (a b : α) : (if All p (k + 1) n then a else b) = if All p k n then a else b := by
 by_cases g : All p k n
 ·rw [if_pos g, if_pos ((All.step h).1 g)]
 ·rw [if_neg g, if_neg λ q => g ((All.step h).2 q)]
theorem zbH {l : LSpec} {p : Nat -> Prop} {n : Nat} (st : Nat -> l.X) (a : l.Y) (b : Nat -> l.Y) (h0 : ∀ Lf : l.X -> Option l.Y, l.b (st n) l.Y Lf some = some a) (hs : ∀ k, k < n -> ∀ Lf : l.X -> Option l.Y, (p k /\ l.b (st k) l.Y Lf some = Lf (st (k + 1))) \/ (¬ p k /\ l.b (st k) l.Y Lf some = some (b k))) : ∀ (d k f : Nat), k + d = n -> d < f -> (All p k n /\ l.L f (st k) = some a) \/ ∃ j, k <= j /\ j < n /\ ¬ p j /\ All p k j /\ l.L f (st k) = some (b j)
 | 0, k, f, hk, hf => by
  obtain ⟨f, rfl⟩ := pS hf
  obtain rfl : k = n := by omega
  exact .inl ⟨All.nil _ _, h0 _⟩
 | d + 1, k, f, hk, hf => by
  obtain ⟨f, rfl⟩ := pS hf
  rcases hs k (by omega) (l.L f) with ⟨h1, h2⟩ | ⟨h1, h2⟩
  ·rcases zbH st a b h0 hs d (k + 1) f (by omega) (by omega) with ⟨g1, g2⟩ | ⟨j, g1, g2, g3, g4, g5⟩
   ·exact .inl ⟨(All.step h1).2 g1, h2.trans g2⟩
   ·exact .inr ⟨j, by omega, g2, g3, (All.step h1).2 g4, h2.trans g5⟩
  ·exact .inr ⟨k, Nat.le_refl _, by omega, h1, All.nil _ _, h2⟩
theorem JO {l : LSpec} {p : Nat -> Prop} {n : Nat} (st : Nat -> l.X) (a b : l.Y) (h0 : ∀ Lf : l.X -> Option l.Y, l.b (st n) l.Y Lf some = some a) (hs : ∀ k, k < n -> ∀ Lf : l.X -> Option l.Y, (p k /\ l.b (st k) l.Y Lf some = Lf (st (k + 1))) \/ (¬ p k /\ l.b (st k) l.Y Lf some = some b)) (f : Nat) (hf : n < f) : l.L f (st 0) = some (if All p 0 n then a else b) := by
 rcases zbH st a (λ _ => b) h0 hs n 0 f (by omega) hf with ⟨g1, g2⟩ | ⟨j, g1, g2, g3, g4, g5⟩
 ·rw [g2, if_pos g1]
 ·rw [g5, if_neg λ h => g3 (h j g1 g2)]
theorem zcV {l : LSpec} {S : Type} {n : Nat} (R : Nat -> S -> Prop) (g : Nat -> S -> S) (st : Nat -> S -> l.X) (fin : S -> l.Y) (h0 : ∀ s, R n s -> ∀ Lf : l.X -> Option l.Y, l.b (st n s) l.Y Lf some = some (fin s)) (hs : ∀ k s, k < n -> R k s -> ∀ Lf : l.X -> Option l.Y, R (k + 1) (g k s) /\ l.b (st k s) l.Y Lf some = Lf (st (k + 1) (g k s))) : ∀ (d k f : Nat) (s : S), k + d = n -> d < f -> R k s -> ∃ s', s' = (List.range' k d).foldl (λ a i => g i a) s /\ R n s' /\ l.L f (st k s) = some (fin s')
 | 0, k, f, s, hk, hf, hR => by
  obtain ⟨f, rfl⟩ := pS hf
  obtain rfl : k = n := by omega
  exact ⟨s, rfl, hR, h0 _ hR _⟩
 | d + 1, k, f, s, hk, hf, hR => by
  obtain ⟨f, rfl⟩ := pS hf
  obtain ⟨h1, h2⟩ := hs k s (by omega) hR (l.L f)
  obtain ⟨s', e, g1, g2⟩ := zcV R g st fin h0 hs d (k + 1) f (g k s) (by omega) (by omega) h1
  exact ⟨s', e, g1, h2.trans g2⟩
def pkL (e : RT0) : List RT1 := (pkE e).filterMap jk
theorem zvf {e : RT0} (h : jj e) : (pkL e).length <= 20 /\ pkE e = (pkL e).map zh := by
 obtain ⟨P, h1, h2⟩ := h
 have : pkL e = P := by
  unfold pkL
  rw [h2, List.filterMap_map, show (jk ∘ zh) = some from funext λ p => zI p]
  exact List.filterMap_some
 rw [this]
 exact ⟨h1, h2⟩
def EP (A : List RT0) (k : Nat) : Prop := ∃ h : k < A.length, evB A[k] (pkL A[k]) = true /\ (∀ j (h' : j < A.length), k = j + 1 -> ¬ cT (nmE A[j]) (nmE A[k]) >= 0) /\ ∀ j (h' : j < A.length), j < k -> ¬ Com (pkL A[k]) (pkL A[j])
theorem zcC {e : RT0} {P : List RT1} (h : P ≠ []) : evB e P = (zas P && eqP (nmE e) (nmF P)) := by
 unfold evB
 cases P with
 | nil => exact absurd rfl h
 | cons a r => rfl
section
variable {A : List RT0} (hA : A.length <= 500) (hp : ∀ a ∈ A, jj a)
include hA hp
theorem zuh (P : List RT1) (hP : P.length <= 500) (i : Nat) (hi : i <= A.length) : zbY 600 (A.map zl, P.map zh, (i : Int), 0) = some (if All (λ j => ∀ h : j < A.length, ¬ Com P (pkL A[j])) 0 i then .inr (A.map zl, (i : Int)) else .inl (A.map zl, false, (i : Int))) :=
 JO (l := zaG 600) (λ k => (A.map zl, P.map zh, (i : Int), (k : Int))) _ _ (λ Lf => by
  have e2 := ltF i i (by omega)
  simp only [zaG, e2]) (λ k hk Lf => by
  have hkl : k < A.length := by omega
  have e2 := ltT k i (by omega)
  have e3 := nnI k
  obtain ⟨q1, q2⟩ := zvf (hp _ (List.getElem_mem hkl))
  obtain ⟨b, b1, b2⟩ := zy6 P (pkL A[k]) hP (by omega)
  simp only [zaG, e2, e3, if_true, Int.toNat_natCast, ze9 A k hkl, pk0, zCV, q2, b1, Zk k (by omega)]
  cases b with
  | true => exact .inr ⟨λ h => h hkl (b2.1 rfl), rfl⟩
  | false => exact .inl ⟨λ _ h => (by cases b2.2 h), rfl⟩) 600 (by omega)
theorem zvr : zrh 600 (A.map zl, 0) = some (if All (EP A) 0 A.length then .inr () else .inl false) :=
 JO (l := zdH 600) (λ k => (A.map zl, (k : Int))) _ _ (λ Lf => by
  have e2 := ltF A.length A.length (by omega)
  simp only [zdH, List.length_map, e2]) (λ k hkl Lf => by
  have e2 := ltT k A.length (by omega)
  have e3 := nnI k
  obtain ⟨q1, q2⟩ := zvf (hp _ (List.getElem_mem hkl))
  have ap := zuh hA hp (pkL A[k]) (by omega) k (by omega)
  have n0 := nm0 A[k]
  simp only [zdH, List.length_map, e2, e3, if_true, Int.toNat_natCast, ze9 A k hkl, pk0, zCV, q2]
  by_cases hP : pkL A[k] = []
  ·have e4 : (((pkL A[k]).length : Int) == 0) = true := by rw [hP]; rfl
   simp only [e4]
   refine .inr ⟨λ h => ?_, trivial⟩
   have := h.2.1
   rw [hP] at this
   cases this
  ·have hlp := List.length_pos_iff.2 hP
   have e4 : (((pkL A[k]).length : Int) == 0) = false := by simp; omega
   have n1 := zzw (pkL A[k]) hP (by omega)
   obtain ⟨O, o1, o2, o3⟩ := zAf (pkL A[k]) (by omega)
   obtain ⟨b, s1, s2⟩ := zzW (pkL A[k]) O (by omega) (by omega)
   simp only [e4, n0, n1]
   cases hq : eqP (nmE A[k]) (nmF (pkL A[k])) with
   | false =>
    simp only [hq, Bool.not_false]
    exact .inr ⟨λ h => (by have := h.2.1; rw [zcC hP, hq, Bool.and_false] at this; cases this), trivial⟩
   | true =>
    simp only [hq, Bool.not_true, o1, s1]
    cases b with
    | false => exact .inr ⟨λ h => (by have := h.2.1; rw [zcC hP, Bool.and_eq_true] at this; cases s2.2 (o3.1 this.1)), rfl⟩
    | true =>
     have hE : evB A[k] (pkL A[k]) = true := by rw [zcC hP, hq, Bool.and_true]; exact o3.2 (s2.1 rfl)
     have fin : ∀ hc : ∀ j (h' : j < A.length), k = j + 1 -> ¬ cT (nmE A[j]) (nmE A[k]) >= 0, (EP A k /\ (match zbY 600 (A.map zl, (pkL A[k]).map zh, (k : Int), 0) with | some y18 => (match y18 with | .inl z19 => (some (.inl z19.2.1)) | .inr z20 => (Lf (z20.1, (i64 (z20.2 + 1))))) | none => none) = Lf (A.map zl, ((k + 1 : Nat) : Int))) \/ (¬ EP A k /\ (match zbY 600 (A.map zl, (pkL A[k]).map zh, (k : Int), 0) with | some y18 => (match y18 with | .inl z19 => (some (.inl z19.2.1)) | .inr z20 => (Lf (z20.1, (i64 (z20.2 + 1))))) | none => none) = some (.inl false)) := λ hc => by
      rw [ap]
      by_cases ha : All (λ j => ∀ h : j < A.length, ¬ Com (pkL A[k]) (pkL A[j])) 0 k
      ·rw [if_pos ha]
       exact .inl ⟨⟨hkl, hE, hc, λ j h' hj => ha j (Nat.zero_le _) hj h'⟩, by simp only [Zk k (by omega)]⟩
      ·rw [if_neg ha]
       exact .inr ⟨λ h => ha λ j _ hj h' => h.2.2.2 j h' hj, rfl⟩
     simp only [Bool.not_true]
     by_cases hk0 : k = 0
     ·subst hk0
      exact fin λ j _ h => by omega
     ·have e5 : decide ((k : Int) > 0) = true := decide_eq_true (by omega)
      have e6 : i64 ((k : Int) - 1) = ((k - 1 : Nat) : Int) := by rw [zW (by omega)]; omega
      have e7 : (0 : Int) <= ((k - 1 : Nat) : Int) := by omega
      have c := zy5 (nmE A[k - 1]) (nmE A[k])
      simp only [e5, e6, e7, if_true, Int.toNat_natCast, ze9 A (k - 1) (by omega), nm0, c]
      by_cases hc : cT (nmE A[k - 1]) (nmE A[k]) >= 0
      ·rw [decide_eq_true hc]
       exact .inr ⟨λ h => h.2.2.1 (k - 1) (by omega) (by omega) hc, rfl⟩
      ·rw [decide_eq_false hc]
       exact fin λ j h' e => by
        subst e
        exact hc) 600 (by omega)
theorem zpF : zaF 600 (A.map zl) = some (decide (All (EP A) 0 A.length)) := by
 simp only [zaF, FSpec.d, zsZ, zvr hA hp]
 by_cases h : All (EP A) 0 A.length
 ·rw [if_pos h, decide_eq_true h]
 ·rw [if_neg h, decide_eq_false h]
end
end
section
open Classical
theorem znE : ∀ (M : List RT1) (p : RT1), p ∈ M -> zdi (zh p) (M.map zh) = true
 | q :: M, p, h => by
  by_cases e : p = q
  ·subst e
   have e : jX (zh p) (zh p) = true := by rw [zuA]; exact Jf _
   unfold zdi
   simp only [List.map_cons, Jm, e]
   rfl
  ·have i1 := znE M p ((List.mem_cons.1 h).resolve_left e)
   have e : jX (zh p) (zh q) = false := by rw [zuA]; exact JM e
   unfold zdi at i1 |-
   simp only [List.map_cons, Jm, e]
   exact i1
theorem zak {α : Type} (P : List α) {k : Nat} (h : k < P.length) : P.take k ++ [P[k]] = P.take (k + 1) := by
 rw [List.take_add_one, List.getElem?_eq_getElem h]; rfl
theorem zqi (X Y : List (List AV)) (la i : Int) (P : List RT1) (hP : P.length <= 500) (hd : P.Pairwise λ a b => a ≠ b) (M : List RT1) : (¬ Com P M /\ zaI 600 (X, Y, P.map zh, la, i, (P.length : Int), 0, M.map zh) = some (.inr (X, Y, la, i, (M ++ P).map zh))) \/ (Com P M /\ ∃ z, zaI 600 (X, Y, P.map zh, la, i, (P.length : Int), 0, M.map zh) = some (.inl (X, Y, false, la, i, z))) := by
 have r := zbH (l := JR 600) (p := λ k => ∀ h : k < P.length, P[k] ∉ M) (n := P.length) (λ k => (X, Y, P.map zh, la, i, (P.length : Int), (k : Int), (M ++ P.take k).map zh)) (.inr (X, Y, la, i, (M ++ P.take P.length).map zh)) (λ k => .inl (X, Y, false, la, i, (M ++ P.take k).map zh)) (λ Lf => by
  have e2 := ltF P.length P.length (by omega)
  simp only [JR, e2]) (λ k hkl Lf => by
  have e2 := ltT k P.length (by omega)
  have e3 := nnI k
  by_cases hm : P[k] ∈ M
  ·have h1 := znE (M ++ P.take k) P[k] (List.mem_append_left _ hm)
   simp only [JR, e2, e3, if_true, Int.toNat_natCast, zae P k hkl, zI, h1]
   exact .inr ⟨λ h => h hkl hm, trivial⟩
  ·obtain ⟨h1, h2⟩ := zr7 (M ++ P.take k) P[k] λ h => by
    rcases List.mem_append.1 h with h | h
    ·exact hm h
    ·obtain ⟨j, hj, e⟩ := List.getElem_of_mem h
     rw [List.getElem_take] at e
     rw [List.length_take] at hj
     exact List.pairwise_iff_getElem.1 hd j k (by omega) hkl (by omega) e
   rw [List.append_assoc, zak P hkl] at h2
   simp only [JR, e2, e3, if_true, Int.toNat_natCast, zae P k hkl, zI, h1, h2, Zk k (by omega)]
   exact .inl ⟨λ _ => hm, rfl⟩) P.length 0 600 (by omega) (by omega)
 simp only [List.take_zero, List.append_nil, List.take_length] at r
 rcases r with ⟨h1, h2⟩ | ⟨j, h1, h2, h3, h4, h5⟩
 ·refine .inl ⟨λ ⟨p, q1, q2⟩ => ?_, h2⟩
  obtain ⟨j, hj, rfl⟩ := List.getElem_of_mem q1
  exact h1 j (Nat.zero_le _) hj hj q2
 ·exact .inr ⟨⟨P[j], List.getElem_mem _, Classical.byContradiction λ h => h3 λ _ => h⟩, _, h5⟩
def pre (A : List RT0) (k : Nat) : List RT1 := ((A.take k).map pkL).flatten
theorem zqa {A : List RT0} {k : Nat} (h : k < A.length) : pre A (k + 1) = pre A k ++ pkL A[k] := by
 unfold pre
 rw [<- zak A h, List.map_append, List.flatten_append]
 simp
theorem zn5 {A : List RT0} {k : Nat} (h : k <= A.length) (P : List RT1) : Com P (pre A k) ↔ ∃ j, ∃ h' : j < A.length, j < k /\ Com P (pkL A[j]) := by
 unfold pre
 constructor
 ·rintro ⟨p, h1, h2⟩
  obtain ⟨l, h3, h4⟩ := List.mem_flatten.1 h2
  obtain ⟨e, h5, rfl⟩ := List.mem_map.1 h3
  obtain ⟨j, hj, rfl⟩ := List.getElem_of_mem h5
  rw [List.length_take] at hj
  rw [List.getElem_take] at h4
  exact ⟨j, by omega, by omega, p, h1, h4⟩
 ·rintro ⟨j, h', hj, p, h1, h2⟩
  refine ⟨p, h1, List.mem_flatten.2 ⟨pkL A[j], List.mem_map.2 ⟨A[j], ?_, rfl⟩, h2⟩⟩
  exact List.mem_take_iff_getElem.2 ⟨j, by omega, rfl⟩
section
variable {A : List RT0} (hA : A.length <= 500) (hp : ∀ a ∈ A, jj a)
include hA hp
theorem zvi : zrm 600 (A.map zl, A.map zl, (A.length : Int), 0, []) = some (if All (EP A) 0 A.length then .inr () else .inl false) :=
 JO (l := zdK 600) (λ k => (A.map zl, A.map zl, (A.length : Int), (k : Int), (pre A k).map zh)) _ _ (λ Lf => by
  have e2 := ltF A.length A.length (by omega)
  simp only [zdK, e2]) (λ k hkl Lf => by
  have e2 := ltT k A.length (by omega)
  have e3 := nnI k
  obtain ⟨q1, q2⟩ := zvf (hp _ (List.getElem_mem hkl))
  have q2' : A[k].2.2.2.2.2.2.2.2.2.1 = (pkL A[k]).map zh := q2
  simp only [zdK, e2, e3, if_true, Int.toNat_natCast, ze9 A k hkl, Zh, q2', List.length_map]
  by_cases hP : pkL A[k] = []
  ·have e4 : (((pkL A[k]).length : Int) == 0) = true := by rw [hP]; rfl
   simp only [e4]
   refine .inr ⟨λ h => ?_, trivial⟩
   have := h.2.1
   rw [hP] at this
   cases this
  ·have hlp := List.length_pos_iff.2 hP
   have e4 : (((pkL A[k]).length : Int) == 0) = false := by simp; omega
   have n1 := zzv (pkL A[k]) (by omega)
   have s1 := zqr (pkL A[k]) hP (by omega)
   simp only [e4, s1]
   cases hs : zas (pkL A[k]) with
   | false =>
    simp only [Bool.not_false]
    exact .inr ⟨λ h => (by have := h.2.1; rw [zcC hP, hs] at this; cases this), trivial⟩
   | true =>
    simp only [Bool.not_true, n1]
    cases hq : eqP (nmE A[k]) (nmF (pkL A[k])) with
    | false =>
     simp only [hq, Bool.not_false]
     exact .inr ⟨λ h => (by have := h.2.1; rw [zcC hP, hq, Bool.and_false] at this; cases this), trivial⟩
    | true =>
     have hE : evB A[k] (pkL A[k]) = true := by rw [zcC hP, hq, hs]; rfl
     simp only [hq, Bool.not_true]
     have fin : ∀ hc : ∀ j (h' : j < A.length), k = j + 1 -> ¬ cT (nmE A[j]) (nmE A[k]) >= 0, (EP A k /\ (match zaI 600 (A.map zl, A.map zl, (pkL A[k]).map zh, (A.length : Int), (k : Int), ((pkL A[k]).length : Int), 0, (pre A k).map zh) with | some y12 => (match y12 with | .inl z13 => (some (.inl z13.2.2.1)) | .inr z14 => (Lf (z14.1, z14.2.1, z14.2.2.1, (i64 (z14.2.2.2.1 + 1)), z14.2.2.2.2))) | none => none) = Lf (A.map zl, A.map zl, (A.length : Int), ((k + 1 : Nat) : Int), (pre A (k + 1)).map zh)) \/ (¬ EP A k /\ (match zaI 600 (A.map zl, A.map zl, (pkL A[k]).map zh, (A.length : Int), (k : Int), ((pkL A[k]).length : Int), 0, (pre A k).map zh) with | some y12 => (match y12 with | .inl z13 => (some (.inl z13.2.2.1)) | .inr z14 => (Lf (z14.1, z14.2.1, z14.2.2.1, (i64 (z14.2.2.2.1 + 1)), z14.2.2.2.2))) | none => none) = some (.inl false)) := λ hc => by
      rcases zqi (A.map zl) (A.map zl) (A.length : Int) (k : Int) (pkL A[k]) (by omega) (zgA hs) (pre A k) with ⟨h1, h2⟩ | ⟨h1, z, h2⟩
      ·rw [h2, zqa hkl]
       exact .inl ⟨⟨hkl, hE, hc, λ j h' hj h => h1 ((zn5 (by omega) _).2 ⟨j, h', hj, h⟩)⟩, by simp only [Zk k (by omega)]⟩
      ·rw [h2]
       refine .inr ⟨λ h => ?_, rfl⟩
       obtain ⟨j, h', hj, h3⟩ := (zn5 (by omega) _).1 h1
       exact h.2.2.2 j h' hj h3
     by_cases hk0 : k = 0
     ·subst hk0
      exact fin λ j _ h => by omega
     ·have e5 : decide ((k : Int) > 0) = true := decide_eq_true (by omega)
      have e6 : i64 ((k : Int) - 1) = ((k - 1 : Nat) : Int) := by rw [zW (by omega)]; omega
      have e7 : (0 : Int) <= ((k - 1 : Nat) : Int) := by omega
      have c : zmS 600 (nmE A[k - 1], zm0 A[k]) = _ := zy4 (nmE A[k - 1]) (nmE A[k])
      simp only [e5, e6, e7, if_true, Int.toNat_natCast, ze9 A (k - 1) (by omega), nm0, c]
      by_cases hc : cT (nmE A[k - 1]) (nmE A[k]) >= 0
      ·rw [decide_eq_true hc]
       exact .inr ⟨λ h => h.2.2.1 (k - 1) (by omega) (by omega) hc, rfl⟩
      ·rw [decide_eq_false hc]
       exact fin λ j h' e => by
        subst e
        exact hc) 600 (by omega)
theorem zuC : zg2 600 (A.map zl) = some (decide (All (EP A) 0 A.length)) := by
 have h := zvi hA hp
 simp only [zg2, FSpec.d, zth, List.length_map, h]
 by_cases h : All (EP A) 0 A.length
 ·rw [if_pos h, decide_eq_true h]
 ·rw [if_neg h, decide_eq_false h]
end
theorem zzc {e : RT0} : All (EP [e]) 0 [e].length ↔ evB e (pkL e) = true := by
 refine ⟨λ h => (h 0 (Nat.le_refl _) (by simp)).2.1, λ h j h1 h2 => ?_⟩
 obtain rfl : j = 0 := by have : j < 1 := h2; omega
 exact ⟨by simp, h, λ j h' e => by omega, λ j h' hj => by omega⟩
theorem zm5 {e : RT0} (h : jj e) : zaF 600 [zl e] = some (evB e (pkL e)) /\ zg2 600 [zl e] = some (evB e (pkL e)) := by
 have hp : ∀ a ∈ [e], jj a := λ a ha => by rw [List.mem_singleton.1 ha]; exact h
 have h1 := zpF (A := [e]) (by simp) hp
 have h2 := zuC (A := [e]) (by simp) hp
 simp only [zzc, Bool.decide_eq_true] at h1 h2
 exact ⟨h1, h2⟩
theorem ze2 {e : RT0} (h : jj e) : (EvG e /\ zaF 600 [zl e] = some true /\ zfR 600 e = some true) \/ (¬ EvG e /\ zaF 600 [zl e] = some false /\ zfR 600 e = some false) := by
 obtain ⟨a1, a2⟩ := zm5 h
 have a3 : zfR 600 e = some (evB e (pkL e)) := by simp only [zfR, FSpec.d, ztU, a2]
 cases hb : evB e (pkL e) with
 | true =>
  rw [hb] at a1 a2 a3
  exact .inl ⟨⟨a1, a2, h⟩, a1, a3⟩
 | false =>
  rw [hb] at a1 a2 a3
  exact .inr ⟨λ h => (by have := h.rv; rw [a1] at this; cases this), a1, a3⟩
structure EvsG (A : List RT0) : Prop where
 le : A.length <= 100
 pk : ∀ a ∈ A, jj a
 ok : All (EP A) 0 A.length
theorem EvsG.g {A : List RT0} (h : EvsG A) : ∀ a ∈ A, EvG a := λ a ha => by
 obtain ⟨k, hk, rfl⟩ := List.getElem_of_mem ha
 obtain ⟨a1, a2⟩ := zm5 (h.pk _ ha)
 rw [(h.ok k (Nat.zero_le _) hk).2.1] at a1 a2
 exact ⟨a1, a2, h.pk _ ha⟩
theorem zfi : ∀ (P : List RT1) (m : RT1), znS m P = m \/ znS m P ∈ P
 | [], m => .inl rfl
 | p :: P, m => by
  unfold znS
  split
  ·rcases zfi P p with h | h
   ·exact .inr (by rw [h]; exact List.mem_cons_self)
   ·exact .inr (List.mem_cons_of_mem _ h)
  ·rcases zfi P m with h | h
   ·exact .inl h
   ·exact .inr (List.mem_cons_of_mem _ h)
theorem EvsG.nm {A : List RT0} (h : EvsG A) (k : Nat) (hk : k < A.length) : nmE A[k] ∈ pkL A[k] := by
 have hb := (h.ok k (Nat.zero_le _) hk).2.1
 by_cases hP : pkL A[k] = []
 ·rw [hP] at hb; cases hb
 ·rw [zcC hP, Bool.and_eq_true] at hb
  rw [znp hb.2]
  cases hl : pkL A[k] with
  | nil => exact absurd hl hP
  | cons p P =>
   rcases zfi P p with h | h
   ·exact List.mem_cons.2 (.inl h)
   ·exact List.mem_cons_of_mem _ h
theorem EvsG.inj {A : List RT0} (h : EvsG A) {j k : Nat} (hj : j < A.length) (hk : k < A.length) (e : nmE A[j] = nmE A[k]) : j = k := by
 rcases Nat.lt_trichotomy j k with g | g | g
 ·exact absurd ⟨_, h.nm k hk, e ▸ h.nm j hj⟩ ((h.ok k (Nat.zero_le _) hk).2.2.2 j hj g)
 ·exact g
 ·exact absurd ⟨_, h.nm j hj, e.symm ▸ h.nm k hk⟩ ((h.ok j (Nat.zero_le _) hj).2.2.2 k hk g)
end
section
open Go.RowKit
def smE (e : RT0) : Bool := decide ((e.2.2.2.2.2.2.2.2.2.1.length : Int) <= 20) && (decide (e.2.2.2.2.2.2.2.2.2.2.2.2.2.1 > -1152921504606846976) && decide (e.2.2.2.2.2.2.2.2.2.2.2.2.2.1 < 1152921504606846976))
theorem zAe (N : Nat) (e : RT0) : zvX N e = some (smE e) := by
 simp only [zvX, FSpec.d, zAN]
 unfold smE
 cases decide ((e.2.2.2.2.2.2.2.2.2.1.length : Int) <= 20) with
 | false => rfl
 | true => cases decide (e.2.2.2.2.2.2.2.2.2.2.2.2.2.1 > -1152921504606846976) <;> rfl
def smX (x : List RT7) : Bool := !(decide ((x.length : Int) > 20)) && x.all λ v => smE (evV v)
def smC (C : List (List RT7)) : Bool := C.all smX && decide ((C.length : Int) <= 10)
theorem zqp (N : Nat) (x : List RT7) (hx : x.length <= 9223372036854775807) (n i : Int) (X : List (List AV)) : ∀ (d k f : Nat), k + d = x.length -> d < f -> (jZ N).L f (x.map zo, n, i, (x.length : Int), (k : Int), X) = some (if (x.drop k).all (λ v => smE (evV v)) = true then .inr (n, i, X) else .inl (false, n, i, X)) := by
 intro d
 induction d with
 | zero =>
  intro k f hk hf
  obtain ⟨f, rfl⟩ : ∃ f', f = f' + 1 := ⟨f - 1, by omega⟩
  rw [List.drop_eq_nil_of_le (by omega)]
  show (jZ N).b _ _ ((jZ N).L f) some = _
  have c : decide ((k : Int) < (x.length : Int)) = false := by rw [decide_eq_false_iff_not]; omega
  simp only [jZ, c]
  rfl
 | succ d ih =>
  intro k f hk hf
  obtain ⟨f, rfl⟩ : ∃ f', f = f' + 1 := ⟨f - 1, by omega⟩
  have hkl : k < x.length := by omega
  have r := ih (k + 1) f (by omega) (by omega)
  rw [List.drop_eq_getElem_cons hkl, List.all_cons]
  show (jZ N).b _ _ ((jZ N).L f) some = _
  obtain ⟨Lf, hL⟩ : ∃ Lf, Lf = (jZ N).L f := ⟨_, rfl⟩
  rw [<- hL] at r |-
  have c1 : decide ((k : Int) < (x.length : Int)) = true := by rw [decide_eq_true_iff]; omega
  have c2 : (0 : Int) <= (k : Int) := by omega
  have e1 : i64 ((k : Int) + 1) = ((k + 1 : Nat) : Int) := by rw [zf1 (by omega)]; omega
  have g : zDk (zo x[k]) = some x[k] := rd7 x[k]
  have s1 : zvX N (zit x[k]) = some (smE (evV x[k])) := zAe N _
  simp only [jZ, c1, c2, if_true, Int.toNat_natCast, zbi x k hkl, g, s1, e1]
  cases smE (evV x[k]) with
  | false => rfl
  | true => exact r
theorem zqo (N : Nat) (C : List (List RT7)) (hC : C.length <= 9223372036854775807) (hx : ∀ x ∈ C, x.length <= 9223372036854775807) (hN : 21 < N) : ∀ (d k f : Nat), k + d = C.length -> d < f -> (J5 N).L f ((C.length : Int), (k : Int), zj C) = some (if (C.drop k).all smX = true then .inr (zj C) else .inl (false, zj C)) := by
 intro d
 induction d with
 | zero =>
  intro k f hk hf
  obtain ⟨f, rfl⟩ : ∃ f', f = f' + 1 := ⟨f - 1, by omega⟩
  rw [List.drop_eq_nil_of_le (by omega)]
  show (J5 N).b _ _ ((J5 N).L f) some = _
  have c : decide ((k : Int) < (C.length : Int)) = false := by rw [decide_eq_false_iff_not]; omega
  simp only [J5, c]
  rfl
 | succ d ih =>
  intro k f hk hf
  obtain ⟨f, rfl⟩ : ∃ f', f = f' + 1 := ⟨f - 1, by omega⟩
  have hkl : k < C.length := by omega
  have r := ih (k + 1) f (by omega) (by omega)
  rw [List.drop_eq_getElem_cons hkl, List.all_cons]
  show (J5 N).b _ _ ((J5 N).L f) some = _
  obtain ⟨Lf, hL⟩ : ∃ Lf, Lf = (J5 N).L f := ⟨_, rfl⟩
  rw [<- hL] at r |-
  have c1 : decide ((k : Int) < (C.length : Int)) = true := by rw [decide_eq_true_iff]; omega
  have c2 : (0 : Int) <= (k : Int) := by omega
  have e1 : i64 ((k : Int) + 1) = ((k + 1 : Nat) : Int) := by rw [zf1 (by omega)]; omega
  have hs : smX C[k] = (!(decide ((C[k].length : Int) > 20)) && C[k].all λ v => smE (evV v)) := rfl
  rw [hs]
  simp only [J5, c1, c2, if_true, Int.toNat_natCast, zC C k hkl, zc1, zgn, List.length_map]
  cases hq : decide ((C[k].length : Int) > 20) with
  | true => rfl
  | false =>
   have hl : C[k].length <= 20 := by rw [decide_eq_false_iff_not] at hq; omega
   have r2 := zqp N C[k] (hx _ (List.getElem_mem _)) (C.length : Int) (k : Int) (zj C) C[k].length 0 N (by omega) (by omega)
   rw [List.drop_zero] at r2
   cases ha : C[k].all λ v => smE (evV v) with
   | false =>
    rw [ha] at r2
    replace r2 : zkz N (C[k].map zo, (C.length : Int), (k : Int), (C[k].length : Int), 0, zj C) = some (.inl (false, (C.length : Int), (k : Int), zj C)) := r2
    simp only [r2]
    rfl
   | true =>
    rw [ha] at r2
    replace r2 : zkz N (C[k].map zo, (C.length : Int), (k : Int), (C[k].length : Int), 0, zj C) = some (.inr ((C.length : Int), (k : Int), zj C)) := r2
    simp only [r2, e1]
    exact r
theorem zqn (C : List (List RT7)) (hC : C.length <= 9223372036854775807) (hx : ∀ x ∈ C, x.length <= 9223372036854775807) : zAK (C.length + 30) (zj C) = some (smC C) := by
 have r := zqo (C.length + 30) C hC hx (by omega) C.length 0 (C.length + 30) (by omega) (by omega)
 rw [List.drop_zero] at r
 replace r : (J5 (C.length + 30)).L (C.length + 30) ((C.length : Int), 0, zj C) = _ := r
 unfold smC
 cases ha : C.all smX with
 | false =>
  rw [ha] at r
  replace r : (J5 (C.length + 30)).L (C.length + 30) ((C.length : Int), 0, zj C) = some (.inl (false, zj C)) := r
  simp only [zAK, FSpec.d, zvW, zsp, zq, r, Bool.false_and]
 | true =>
  rw [ha] at r
  replace r : (J5 (C.length + 30)).L (C.length + 30) ((C.length : Int), 0, zj C) = some (.inr (zj C)) := r
  simp only [zAK, FSpec.d, zvW, zsp, zq, r, Bool.true_and]
theorem zqf {a b : RT7} (h : zo a = zo b) : a = b := by
 have := congrArg zfw h
 rw [rd7, rd7] at this
 exact Option.some.inj this
theorem ziB {C D : List (List RT7)} (h : zj C = zj D) : C = D := by
 induction C generalizing D with
 | nil => cases D with | nil => rfl | cons y D => cases h
 | cons x C ih =>
  cases D with
  | nil => cases h
  | cons y D =>
   have h' : zqg x :: zj C = zqg y :: zj D := h
   injection h' with h1 h2
   have h3 := congrArg zbr h1
   rw [zhK, zhK] at h3
   have h4 : x.map zo = y.map zo := congrArg Prod.fst (Option.some.inj h3)
   have h5 : x = y := List.map_inj_right (λ _ _ e => zqf e) |>.1 h4
   rw [h5, ih h2]
def Sz (C : List (List RT7)) : Prop := C.length <= 9223372036854775807 /\ ∀ x ∈ C, x.length <= 9223372036854775807
open Classical in
noncomputable def zDh (N : Nat) : FSpec := { zvW N with t := λ (x : List (List AV)) α k => if h : ∃ C, x = zj C /\ Sz C then k (smC h.choose) else none, par := by intro x α β k k' r r' h h1; revert h; dsimp only; (repeat' split) <;> intro h <;> first | exact h1 _ h | cases h }
noncomputable abbrev zDg (N : Nat) (x : List (List AV)) : Option Bool := (zDh N).d x
noncomputable def F6_e (N : Nat) : Ent Tryz.prog where
 f := 6
 F := zDh N
 ok := λ (x : List (List AV)) y h => by
  classical
  have h : (if h : ∃ C, x = zj C /\ Sz C then some (smC h.choose) else none) = some y := h
  split at h
  ·rename_i hx
   cases h
   obtain ⟨e1, e2, e3⟩ := hx.choose_spec
   have := (zDc (hx.choose.length + 30)).ok (zj hx.choose) _ (zqn _ e2 e3)
   rw [<- e1] at this
   exact this
  ·cases h
 hp := (zDc 0).hp
 hsl := λ y => rfl
theorem zqq {C : List (List RT7)} (h : Sz C) : zDg 600 (zj C) = some (smC C) := by
 classical
 have hx : ∃ D, zj C = zj D /\ Sz D := ⟨C, rfl, h⟩
 show (if h : ∃ D, zj C = zj D /\ Sz D then some (smC h.choose) else none) = _
 rw [dif_pos hx, <- ziB hx.choose_spec.1]
end
section
noncomputable section
open Go.RowKit
set_option maxRecDepth 4000
set_option maxHeartbeats 4000000
def zhU : Nat -> Keep × Keep := anL [(4, ⟨[5, 6], [], [], [(0, 25)], [], [], [], [], false, none, []⟩, ⟨[2], [], [], [(0, 25)], [], [], [], [], false, none, []⟩)]
def zvU (N : Nat) : List (Ent qP) := [zDd N]
def jY (N : Nat) : LSpec where
 X := qL × Int × Int
 Y := (qL × Bool) ⊕ (qL)
 dt := .mk 19 0 (zhU 4).1.toks [(0, .lst 25), (5, .int .i64), (6, .int .i64)] [] rfl
 od := .mk 19 0 (zhU 4).2.toks [⟨.ret, [(0, .lst 25), (2, .bool)], [], none⟩, ⟨.exit 0, [(0, .lst 25)], [], none⟩] rfl
 b := λ u4 α kn ke => (match (decide (u4.2.2 < u4.2.1)) with | true => (if 0 <= u4.2.2 then (match u4.1[u4.2.2.toNat]? with | some c1 => (match zDl c1 with | some e2 => (match zvX N e2 with | some y3 => (match (!y3) with | true => (ke (.inl (u4.1, false))) | false => (kn (u4.1, u4.2.1, (i64 (u4.2.2 + 1))))) | none => none) | none => none) | none => none) else none) | false => (ke (.inr u4.1)))
abbrev zqD (N : Nat) (x : qL × Int × Int) : Option ((qL × Bool) ⊕ (qL)) := (jY N).L N x
def zky (N : Nat) : FSpec where
 X := qL
 Y := Bool
 ad := .mk [.lst 25] [] rfl
 ret := λ y => qR (AV.v (.bool y))
 t := λ x α k => (match zqD N (x, (x.length : Int), 0) with | some y4 => (match y4 with | .inl z5 => (k z5.2) | .inr z6 => (k (decide ((z6.length : Int) <= 10)))) | none => none)
abbrev zso (N : Nat) (x : qL) : Option (Bool) := (zky N).d x
def zqE (N : Nat) : List (Nat × LSpec) := [(4, jY N)]
def zvS : Code := Tryz.f31.body.getD .skip
theorem zkx (N : Nat) : zP qP zhU N (zqE N) 4 (zb 4 zvS) :=
 zy (zc qP) zf (zvU N) (l := []) an (jY N)
def zvT (N : Nat) : Ent qP := zG (zc qP) zf (zvU N) 31 Tryz.f31 Tryz.func31 zhU N (zqE N) (l := [(4, zb 4 zvS)]) (al (zkx N) an) (zky N)
end
end
section
open Go.RowKit
def smA (A : List RT0) : Bool := A.all smE && decide ((A.length : Int) <= 10)
theorem zqm (N : Nat) (A : List RT0) (hA : A.length <= 9223372036854775807) : ∀ (d k f : Nat), k + d = A.length -> d < f -> (jY N).L f (A.map zl, (A.length : Int), (k : Int)) = some (if (A.drop k).all smE = true then .inr (A.map zl) else .inl (A.map zl, false)) := by
 intro d
 induction d with
 | zero =>
  intro k f hk hf
  obtain ⟨f, rfl⟩ : ∃ f', f = f' + 1 := ⟨f - 1, by omega⟩
  rw [List.drop_eq_nil_of_le (by omega)]
  show (jY N).b _ _ ((jY N).L f) some = _
  have c : decide ((k : Int) < (A.length : Int)) = false := by rw [decide_eq_false_iff_not]; omega
  simp only [jY, c]
  rfl
 | succ d ih =>
  intro k f hk hf
  obtain ⟨f, rfl⟩ : ∃ f', f = f' + 1 := ⟨f - 1, by omega⟩
  have hkl : k < A.length := by omega
  have r := ih (k + 1) f (by omega) (by omega)
  rw [List.drop_eq_getElem_cons hkl, List.all_cons]
  show (jY N).b _ _ ((jY N).L f) some = _
  generalize (jY N).L f = Lf at r |-
  have c1 : decide ((k : Int) < (A.length : Int)) = true := by rw [decide_eq_true_iff]; omega
  have c2 : (0 : Int) <= (k : Int) := by omega
  have e1 : i64 ((k : Int) + 1) = ((k + 1 : Nat) : Int) := by rw [zf1 (by omega)]; omega
  have g0 : (A.map zl)[k]? = some (zl A[k]) := by simp [hkl]
  have g : zDl (zl A[k]) = some A[k] := Zh A[k]
  simp only [jY, c1, c2, if_true, Int.toNat_natCast, g0, g, zAe, e1]
  cases smE A[k] with
  | false => rfl
  | true => exact r
theorem zql (A : List RT0) (hA : A.length <= 9223372036854775807) : zso (A.length + 1) (A.map zl) = some (smA A) := by
 have r := zqm (A.length + 1) A hA A.length 0 (A.length + 1) (by omega) (by omega)
 rw [List.drop_zero] at r
 replace r : zqD (A.length + 1) (A.map zl, (A.length : Int), 0) = _ := r
 unfold smA
 cases ha : A.all smE with
 | false =>
  rw [ha] at r
  simp only [zso, FSpec.d, zky, List.length_map, r, Bool.false_and]
  rfl
 | true =>
  rw [ha] at r
  simp only [zso, FSpec.d, zky, List.length_map, r, Bool.true_and]
  simp
theorem zqe {a b : RT0} (h : zl a = zl b) : a = b := by
 have := congrArg zeE h
 rw [Zh, Zh] at this
 exact Option.some.inj this
open Classical in
noncomputable def zw1 (N : Nat) : FSpec := { zky N with t := λ (x : List (List AV)) α k => if h : ∃ A : List RT0, x = A.map zl /\ A.length <= 9223372036854775807 then k (smA h.choose) else none, par := by intro x α β k k' r r' h h1; revert h; dsimp only; (repeat' split) <;> intro h <;> first | exact h1 _ h | cases h }
noncomputable abbrev zw0 (N : Nat) (x : List (List AV)) : Option Bool := (zw1 N).d x
noncomputable def zA8 (N : Nat) : Ent Tryz.prog where
 f := 31
 F := zw1 N
 ok := λ (x : List (List AV)) y h => by
  classical
  have h : (if h : ∃ A : List RT0, x = A.map zl /\ A.length <= 9223372036854775807 then some (smA h.choose) else none) = some y := h
  split at h
  ·rename_i hx
   cases h
   obtain ⟨e1, e2⟩ := hx.choose_spec
   have := (zvT (hx.choose.length + 1)).ok (hx.choose.map zl) _ (zql _ e2)
   rw [<- e1] at this
   exact this
  ·cases h
 hp := (zvT 0).hp
 hsl := λ y => rfl
theorem zoj {A : List RT0} (h : A.length <= 9223372036854775807) : zw0 600 (A.map zl) = some (smA A) := by
 classical
 have hx : ∃ D : List RT0, A.map zl = D.map zl /\ D.length <= 9223372036854775807 := ⟨A, rfl, h⟩
 show (if h : ∃ D : List RT0, A.map zl = D.map zl /\ D.length <= 9223372036854775807 then some (smA h.choose) else none) = _
 rw [dif_pos hx]
 exact congrArg (λ D => some (smA D)) ((List.map_inj_right λ _ _ e => zqe e).1 hx.choose_spec.1).symm
end
section
open Go.RowKit
def RwF (M : Mem) (R : List (List Value)) (xs : List (List AV)) : Prop := R.length = xs.length /\ ∀ i (h : i < R.length) (h' : i < xs.length), (R[i]).length = (xs[i]).length /\ ∀ j (q : j < (R[i]).length) (q' : j < (xs[i]).length), (R[i][j]).oneCell' = true /\ Rd M JD jE (R[i][j]) (xs[i][j])
def rwA (R : List (List Value)) : List (List AV) := R.map λ r => r.map AV.v
theorem Jq (R : List (List Value)) : (rwA R).length = R.length := by simp [rwA]
theorem zqc {M : Mem} {ρ : Rho} {σ : Sig} {c : Value} {n : Nat} {xs : List (List AV)} {t : Option Nat} (h : Rd M ρ σ c (.list n xs t)) : ∃ R : List (List Value), RwF M R xs /\ Rd M ρ σ c (.list n (rwA R) t) := by
 cases h with
 | nil => exact ⟨[], ⟨rfl, λ i h => by cases h⟩, .nil⟩
 | @list _ _ g off len cap _ _ _ cf q1 q2 q3 q4 q5 q6 q7 =>
  obtain ⟨R, hR⟩ : ∃ R : List (List Value), R = (List.range xs.length).map λ i => (List.range n).map λ j => cf i j := ⟨_, rfl⟩
  have hl : R.length = xs.length := by simp [hR]
  have hi : ∀ i (h : i < R.length), R[i] = (List.range n).map λ j => cf i j := λ i h => by simp [hR]
  refine ⟨R, ⟨hl, λ i h h' => ?_⟩, .list cf (by rw [Jq, hl, q1]) q2 (λ i h => ?_) (λ i j h1 h2 => q4 i j (by rw [Jq, hl] at h1; exact h1) h2) q5 (λ i j h1 h2 => ?_) q7⟩
  ·have e := hi i h
   refine ⟨by rw [e, q3 i h']; simp, λ j q q' => ?_⟩
   have ej : R[i][j] = cf i j := by simp [e]
   rw [ej]
   exact ⟨q5 i j, q6 i j h' q'⟩
  ·have h' : i < R.length := by rw [Jq] at h; exact h
   simp [rwA, hi i h']
  ·have h' : i < R.length := by rw [Jq] at h1; exact h1
   have e : (rwA R)[i][j] = AV.v (cf i j) := by simp [rwA, hi i h']
   rw [e]
   exact .v
def zL (XX : List (List (List AV))) : List (List AV) := XX.map λ xs => [AV.list 29 xs none]
theorem ZP (XX : List (List (List AV))) : (zL XX).length = XX.length := by simp [zL]
theorem zof (XX : List (List (List AV))) (k : Nat) (h : k < XX.length) : (zL XX)[k]? = some [AV.list 29 XX[k] none] := by simp [zL, h]
theorem znh (C : qC) : zj C = zL (C.map λ x => x.map zo) := by simp [zj, zL, zqg]
theorem zvn {M : Mem} {ρ : Rho} {σ : Sig} {c : Value} {XX : List (List (List AV))} {t : Option Nat} (h : Rd M ρ σ c (.list 1 (zL XX) t)) : ∃ RR : List (List (List Value)), RR.length = XX.length /\ (∀ k (h : k < RR.length) (h' : k < XX.length), RwF M RR[k] XX[k]) /\ Rd M ρ σ c (.list 1 (zL (RR.map rwA)) t) := by
 generalize hr : zL XX = rows at h
 cases h with
 | nil =>
  have : XX = [] := by cases XX with | nil => rfl | cons a l => cases hr
  subst this
  exact ⟨[], rfl, λ k h => (by cases h), .nil⟩
 | @list _ _ g off len cap _ _ _ cf q1 q2 q3 q4 q5 q6 q7 =>
  subst hr
  rw [ZP] at q1
  have key : ∀ k, ∃ R : List (List Value), ∀ h : k < XX.length, RwF M R XX[k] /\ Rd M JD jE (cf k 0) (.list 29 (rwA R) none) := λ k => by
   by_cases hk : k < XX.length
   ·have h1 := q6 k 0 (by rw [ZP]; exact hk) (by simp [zL])
    have e : ((zL XX)[k]'(by rw [ZP]; exact hk))[0]'(by simp [zL]) = AV.list 29 XX[k] none := by simp [zL]
    rw [e] at h1
    obtain ⟨R, r1, r2⟩ := zqc h1
    exact ⟨R, λ _ => ⟨r1, r2⟩⟩
   ·exact ⟨[], λ h => absurd h hk⟩
  obtain ⟨f, hf⟩ := Classical.skolem.1 key
  obtain ⟨RR, hRR⟩ : ∃ RR : List (List (List Value)), RR = (List.range XX.length).map f := ⟨_, rfl⟩
  have hl : RR.length = XX.length := by simp [hRR]
  have hi : ∀ k (h : k < RR.length), RR[k] = f k := λ k h => by simp [hRR]
  refine ⟨RR, hl, λ k h h' => by rw [hi k h]; exact (hf k h').1, .list cf (by rw [ZP, List.length_map, hl, q1]) q2 (λ i h => by simp only [zL, List.getElem_map]; have := q3 i (by rw [ZP]; simpa [zL, hl] using h); simpa [zL] using this) (λ i j h1 h2 => q4 i j (by rw [ZP]; simpa [zL, hl] using h1) h2) q5 (λ i j h1 h2 => ?_) q7⟩
  have h' : i < RR.length := by simpa [zL] using h1
  have hj : j = 0 := by simp [zL] at h2; exact h2
  subst hj
  have e : ((zL (RR.map rwA))[i])[0] = AV.list 29 (rwA (f i)) none := by simp [zL, hi i h']
  rw [e]
  exact (hf i (by omega)).2
def csx : Nat -> List (List (List AV)) -> List AV
 | _, [] => []
 | i, x :: r => AV.list 29 x (some (TOB + i)) :: csx (i + 1) r
theorem zeV : ∀ (XX : List (List (List AV))) (i : Nat), (csx i XX).length = XX.length
 | [], _ => rfl
 | x :: r, i => by simp [csx, zeV r]
theorem znm : ∀ (A B : List (List (List AV))) (i : Nat), csx i (A ++ B) = csx i A ++ csx (i + A.length) B
 | [], B, i => by simp [csx]
 | x :: A, B, i => by
  simp only [List.cons_append, csx, znm A B (i + 1), List.length_cons]
  rw [show i + 1 + A.length = i + (A.length + 1) by omega]
theorem znn : ∀ (XX : List (List (List AV))) (i k : Nat) (h : k < XX.length), (csx i XX)[k]? = some (AV.list 29 XX[k] (some (TOB + (i + k))))
 | x :: r, i, 0, h => by simp [csx]
 | x :: r, i, k + 1, h => by
  simp only [csx, List.getElem?_cons_succ, List.getElem_cons_succ]
  rw [znn r (i + 1) k (by simpa using h), show i + 1 + k = i + (k + 1) by omega]
theorem ziJ : ∀ (XX : List (List (List AV))) (i : Nat), (csx i XX).map datF = csx i XX
 | [], _ => rfl
 | x :: r, i => by
  have hb : Nat.ble TOB (TOB + i) = true := Nat.ble_eq_true_of_le (by omega)
  simp only [csx, List.map_cons, datF, hb, cond_true, ziJ r]
theorem zj7 (XX : List (List (List AV))) (he : XX.length <= 500) (hm : ∀ x ∈ XX, x.length <= 1000) (X : List (List AV)) : ∀ (d k f : Nat), k + d = XX.length -> d < f -> (zU 600).L f ((k : Int), zL XX, X, k, csx 0 (XX.take k), 0, k) = some (X, XX.length, csx 0 XX, 0, XX.length) := by
 intro d
 induction d with
 | zero =>
  intro k f hk hf
  obtain ⟨f, rfl⟩ := pS hf
  obtain rfl : k = XX.length := by omega
  rw [List.take_length]
  show (zU 600).b _ _ ((zU 600).L f) some = _
  have e2 := ltF XX.length XX.length (by omega)
  simp only [zU]
  simp only [ZP, e2, ziJ]
 | succ d ih =>
  intro k f hk hf
  obtain ⟨f, rfl⟩ := pS hf
  have hkl : k < XX.length := by omega
  have r1 := ih (k + 1) f (by omega) (by omega)
  have hlk : (XX.take k).length = k := by simp; omega
  have hcl : (csx 0 (XX.take k)).length = k := by rw [zeV, hlk]
  have hn : ((csx 0 (XX.take k)).take (k * 1) ++ [AV.list 29 XX[k] (some (TOB + k))]).map datF = csx 0 (XX.take (k + 1)) := by
   rw [Nat.mul_one, List.take_of_length_le (by omega), List.take_succ_eq_append_getElem hkl, znm, hlk, Nat.zero_add]
   have hb : Nat.ble TOB (TOB + k) = true := Nat.ble_eq_true_of_le (by omega)
   rw [List.map_append, ziJ]
   simp only [csx, List.map_cons, List.map_nil, datF, hb, cond_true]
  show (zU 600).b _ _ ((zU 600).L f) some = _
  generalize (zU 600).L f = Lf at r1 |-
  have e2 := ltT k XX.length (by omega)
  have h0 := nnI k
  have hx := hm XX[k] (List.getElem_mem _)
  have b1 : ((([] : List (List AV)).length + (XX[k]).length) * 288 <= zd) = True := by unfold zd; simp; omega
  have b2 : ((True /\ 0 <= k) /\ k * 1 <= (csx 0 (XX.take k)).length /\ (k + 1) * 24 <= zd) = True := by rw [hcl]; unfold zd; simp; omega
  have g0 : ([AV.list 29 XX[k] none].drop 0)[0]? = some (AV.list 29 XX[k] none) := rfl
  simp only [zU]
  simp only [ZP, e2, h0, if_true, Int.toNat_natCast, zof XX k hkl, g0, zgn, b1, b2, List.nil_append, Zk k (by omega), hn]
  exact r1
theorem zCC (XX : List (List (List AV))) (he : XX.length <= 500) (hm : ∀ x ∈ XX, x.length <= 1000) : zb1 600 (zL XX) = some (XX.length, csx 0 XX, 0, XX.length) := by
 have h1 := zj7 XX he hm [] XX.length 0 600 (by omega) (by omega)
 replace h1 : (zU 600).L 600 (0, zL XX, [], 0, [], 0, 0) = some ([], XX.length, csx 0 XX, 0, XX.length) := h1
 simp only [zb1, FSpec.d, zif, zgY, h1, ziJ]
end
section
open Go.RowKit
section
variable {B : Base} {M : Mem} {ρ : Rho} {σ : Sig} {s : AS} {a : Act} {w : World}
structure Inn (M' : Mem) (σ' : Sig) (c : Value) (R : List (List Value)) (t : Nat) where
 g : Nat
 q : Nat
 cap : Nat
 cf : Nat -> Nat -> Value
 sp : Spare
 e : c = .slice (some ⟨g, q * 29, none⟩) R.length cap
 le : R.length <= cap
 m : ∀ i j, i < R.length -> j < 29 -> M' g (q * 29 + i * 29 + j) = some (cf i j)
 one : ∀ i j, (cf i j).oneCell' = true
 c : ∀ i j (h : i < R.length) (h' : j < (R[i]).length), cf i j = R[i][j]
 tok : σ' t = some sp
 sg : sp.g = g
 hi : sp.hi = q * 29 + cap * 29
theorem zzm {M' : Mem} {ρ' : Rho} {σ' : Sig} {c : Value} {R : List (List Value)} {t : Nat} (h : Rd M' ρ' σ' c (.list 29 (rwA R) (some t))) : (R = [] /\ ∀ (M2 : Mem) (ρ2 : Rho) (σ2 : Sig), Rd M2 ρ2 σ2 c (.list 29 [] none)) \/ Nonempty (Inn M' σ' c R t) := by
 generalize hx : rwA R = xs at h
 cases h with
 | nil => exact .inl ⟨(by cases R with | nil => rfl | cons x r => cases hx), λ M2 ρ2 σ2 => .nil⟩
 | @list _ _ g off len cap _ _ _ cf q1 q2 q3 q4 q5 q6 q7 =>
  subst hx
  rw [Jq] at q1
  by_cases hR : R = []
  ·subst hR
   refine .inl ⟨rfl, λ M2 ρ2 σ2 => ?_⟩
   have : len = 0 := by simpa using q1.symm
   subst this
   exact .list cf rfl q2 (λ i h => by cases h) (λ i j h => by cases h) q5 (λ i j h => by cases h) .none
  ·have hp := List.length_pos_iff.2 hR
   rcases q7 t rfl with e | ⟨sp, s1, s2, s3, s4, q, hq⟩
   ·omega
   ·subst hq
    subst q1
    refine .inr ⟨⟨g, q, cap, cf, sp, rfl, q2, λ i j hi hj => q4 i j (by rw [Jq]; exact hi) hj, q5, λ i j hi hj => ?_, s1, s2, s4⟩⟩
    have h1 : i < (rwA R).length := by rw [Jq]; exact hi
    have e1 : (rwA R)[i] = (R[i]).map AV.v := by simp [rwA]
    have h2 : j < ((rwA R)[i]).length := by rw [e1]; simpa using hj
    have h3 := q6 i j h1 h2
    have e2 : (rwA R)[i][j] = AV.v (R[i][j]) := by simp [rwA]
    rw [e2] at h3
    exact h3.v_inv
set_option maxHeartbeats 4000000 in
theorem thaw (h : SimW B M ρ σ s a w) {RR : List (List (List Value))} {XX : List (List (List AV))} (hl : RR.length = XX.length) (hf : ∀ k (h : k < RR.length) (h' : k < XX.length), RwF M RR[k] XX[k]) (hw : ∀ x ∈ XX, ∀ r ∈ x, r.length = 29)
  {i0 : Nat} (hi : i0 < XX.length) (hne : XX[i0] ≠ []) (f77 : s.bx 77 = none) (t77 : s.tk (vk 77) = none) (f78 : s.bx 78 = none) (t78 : s.tk (vk 78) = none) (hn : s.nin <= 77)
  {σc : Sig} {c : Value} {M' : Mem} {w' : World} {σ' : Sig} {gn : List (Option Nat)} (left : Left M w [] σc ⟨.agg [.vs 0 0 XX.length 1], [], some (csx 0 (RR.map rwA)), [], [], [], some (0, XX.length)⟩ c M' w' σ' gn) :
  ∃ (cv : Value) (q : Nat) (M2 : Mem) (ρ2 : Rho) (σ2 : Sig), c = .agg #[cv] /\ cv.oneCell' = true /\ Rd M2 ρ2 σ2 cv (.vs 77 0 XX.length 1) /\
   SimW B M2 ρ2 σ2 ((((s.ap (.box 78 (some (List.replicate (q * 29) .any ++ (XX[i0]).flatten)))).ap (.tok (vk 78) false)).ap (.box 77 (some ((XX.map λ x => AV.list 29 x none).set i0 (.vs 78 q (XX[i0]).length 29))))).ap (.tok (vk 77) false)) a w' := by
 obtain ⟨go, rfl, hb, hfr⟩ := left.new _ rfl
 have hval := left.val
 obtain ⟨N, hN⟩ : ∃ N, XX.length = N := ⟨_, rfl⟩
 rw [hN] at hval
 cases hval with
 | @agg _ _ cs _ a1 a2 a3 =>
 have hcs : cs.size = 1 := a1
 obtain ⟨cv, hcv⟩ : ∃ cv, cs[0]'(by omega) = cv := ⟨_, rfl⟩
 have r0 := a3 0 (by omega) (by simp)
 have o0 := a2 0 (by omega)
 have ecs : cs = #[cv] := by
  apply Array.ext
  ·simpa using hcs
  ·intro i h1 h2
   have : i = 0 := by simp at h2; exact h2
   subst this
   simpa using hcv
 rw [hcv] at r0 o0
 replace r0 : Rd M' (gsR ([] ++ [go])) σ' cv (.vs 0 0 N 1) := r0
 have hN0 : 0 < N := by omega
 cases r0 with
 | vsn => omega
 | vse => omega
 | @vs _ _ _ g _ _ cap _ v1 v2 v3 =>
 have hgo : go = some g := v1
 subst hgo
 have hgf := hfr g rfl
 obtain ⟨spd, d1, d2, d3⟩ := v3
 rcases hb with ⟨-, e⟩ | ⟨g', eg, ⟨ccs, ty, at1, z2, z3, z4⟩, hnone⟩
 ·cases e
 cases eg
 rw [zeV, List.length_map, hl, hN] at z2
 have inn : ∀ k (hk : k < N), (RR[k]'(by omega) = [] /\ ∀ (M2 : Mem) (ρ2 : Rho) (σ2 : Sig), Rd M2 ρ2 σ2 (ccs[k]'(by omega)) (.list 29 [] none)) \/ Nonempty (Inn M' σ' (ccs[k]'(by omega)) (RR[k]'(by omega)) (TOB + k)) := λ k hk => by
  have h1 : k < (csx 0 (RR.map rwA)).length := by rw [zeV, List.length_map]; omega
  have h2 := z4 k (by omega) h1
  have e := znn (RR.map rwA) 0 k (by rw [List.length_map]; omega)
  rw [List.getElem?_eq_getElem h1, Nat.zero_add, List.getElem_map] at e
  rw [Option.some.inj e] at h2
  exact zzm h2
 have lv : ∀ k, k < N -> (⟨.agg [.vs 0 0 XX.length 1], [], some (csx 0 (RR.map rwA)), [], [], [], some (0, XX.length)⟩ : Ret).lv (TOB + k) := λ k hk => .inr ⟨0, XX.length, rfl, by omega, by omega⟩
 have fresh : ∀ k (hk : k < N) (I : Inn M' σ' (ccs[k]'(by omega)) (RR[k]'(by omega)) (TOB + k)), w.heap.size <= I.g /\ I.g ≠ g := λ k hk I => by
  obtain ⟨p1, -, -, p4⟩ := left.tok _ (lv k hk) I.sp I.tok
  rw [I.sg] at p1 p4
  refine ⟨p1.elim id λ ⟨t, ht, _⟩ => (by cases ht), λ e => p4 (by simp [e])⟩
 have lens : ∀ k (hk : k < N), (RR[k]'(by omega)).length = (XX[k]'(by omega)).length := λ k hk => (hf k (by omega) (by omega)).1
 have hi' : i0 < N := by omega
 rcases inn i0 hi' with ⟨e, -⟩ | ⟨⟨I⟩⟩
 ·have := lens i0 hi'
  rw [e] at this
  exact absurd (List.length_eq_zero_iff.1 this.symm) hne
 obtain ⟨f1, f2⟩ := fresh i0 hi' I
 obtain ⟨M2, hM2⟩ : ∃ M2 : Mem, M2 = λ g' o => if g' < w.heap.size then M g' o else if g' = g \/ g' = I.g then none else M' g' o := ⟨_, rfl⟩
 have m_old : ∀ g' o, g' < w.heap.size -> M2 g' o = M g' o := λ g' o hg => by rw [hM2]; exact if_pos hg
 have m_new : ∀ g' o, w.heap.size <= g' -> g' ≠ g -> g' ≠ I.g -> M2 g' o = M' g' o := λ g' o h1 h2 h3 => by
  rw [hM2]
  show (if _ then _ else _) = _
  rw [if_neg (by omega), if_neg (by rintro (e | e) <;> contradiction)]
 have m_no : ∀ g' o, w.heap.size <= g' -> (g' = g \/ g' = I.g) -> M2 g' o = none := λ g' o h1 h2 => by
  rw [hM2]
  show (if _ then _ else _) = _
  rw [if_neg (by omega), if_pos h2]
 have sub : ∀ g' o v, M g' o = some v -> M2 g' o = some v := λ g' o v hm => by
  by_cases hg : g' < w.heap.size
  ·rw [m_old g' o hg]; exact hm
  ·rw [h.free (by omega) o] at hm; cases hm
 have mem : ∀ g' o v, M2 g' o = some v -> w'.cell? ⟨g', o, none⟩ = some v := λ g' o v hm => by
  by_cases hg : g' < w.heap.size
  ·rw [m_old g' o hg] at hm; exact left.mem _ _ _ (left.sub _ _ _ hm)
  ·by_cases h2 : g' = g \/ g' = I.g
   ·rw [m_no g' o (by omega) h2] at hm; cases hm
   ·rw [m_new g' o (by omega) (λ e => h2 (.inl e)) (λ e => h2 (.inr e))] at hm; exact left.mem _ _ _ hm
 have up : ∀ c v, Rd M JD jE c v -> Rd M2 JD jE c v := λ c v hr => hr.mono sub _ _ (λ _ _ h => h) (λ _ _ h => h)
 have frm : Frm w w' (([] : List Nat).map ρ) (λ _ => False) := ⟨left.frm.os, left.frm.tape, left.frm.output, left.frm.size, λ k h1 h2 h3 => left.frm.block k h1 (by simp) λ ⟨t, ht, _⟩ => by cases ht⟩
 have h2 : SimW B M2 ρ σ s a w' := h.after (l := []) (T := λ _ => False) (λ b hb => by cases hb) sub mem (λ g' o hg _ => m_old g' o hg) frm (λ g' hg => hg.elim) (λ g' hg => hg.elim) (λ b hb => by cases hb) left.rows (λ b hb => by cases hb) [] rfl .nil
 have nox : ∀ x, w.heap.size <= x -> ∀ b, ρ b ≠ some x := λ x hx b e => by have := h.rlt b x e; omega
 have nos : ∀ x, w.heap.size <= x -> ∀ t sp, σ t = some sp -> sp.g ≠ x := λ x hx t sp hs e => by have := (h.cap t sp hs).lt; omega
 -- the zkc list's block
 have hcap := left.cap _ I.sp I.tok
 rw [I.sg, I.hi] at hcap
 obtain ⟨cc2, ty2, at2, sz2⟩ := hcap
 have hxl : (RR[i0]'(by omega)).length = (XX[i0]).length := lens i0 hi'
 have hrow : ∀ r (h : r < (XX[i0]).length), ((XX[i0])[r]).length = 29 := λ r h => hw _ (List.getElem_mem _) _ (List.getElem_mem _)
 have hle := I.le
 rw [hxl] at hle
 have hle29 : (XX[i0]).length * 29 <= I.cap * 29 := Nat.mul_le_mul_right _ hle
 have hrd : ∀ r j (h : r < (XX[i0]).length) (h' : j < ((XX[i0])[r]).length), Rd M2 JD jE (I.cf r j) ((XX[i0])[r][j]) := λ r j h h' => by
  obtain ⟨e1, e2⟩ := hf i0 (by omega) (by omega)
  obtain ⟨e3, e4⟩ := e2 r (by omega) h
  rw [I.c r j (by omega) (by omega)]
  exact up _ _ (e4 j (by omega) h').2
 obtain ⟨fl1, fl2⟩ := SrcL.flat (M := M2) (sz := 29) (g := I.g) (off := 0) (xs := XX[i0]) (cf := I.cf) (XX[i0]) I.cf hrow hrd
 obtain ⟨E, hE⟩ : ∃ E, E = List.replicate (I.q * 29) AV.any ++ (XX[i0]).flatten := ⟨_, rfl⟩
 have hEl : E.length = I.q * 29 + (XX[i0]).length * 29 := by rw [hE, List.length_append, List.length_replicate, fl1]
 have hold2 : Hold0 M2 ρ σ w' I.g E := by
  refine ⟨cc2, ty2, at2, by omega, λ i h _ => at2.one i h, λ i h h' => ?_⟩
  by_cases hq : i < I.q * 29
  ·have : E[i] = .any := by simp only [hE]; rw [List.getElem_append_left (by simpa using hq)]; simp
   rw [this]; exact .any
  ·have h1 : i - I.q * 29 < (XX[i0]).flatten.length := by rw [fl1]; omega
   have e1 : E[i] = (XX[i0]).flatten[i - I.q * 29] := by
    simp only [hE]
    rw [List.getElem_append_right (by simp; omega)]
    simp
   rw [e1]
   have h3 := fl2 (i - I.q * 29) h1
   rw [fl1] at h1
   have hdm := Nat.div_add_mod (i - I.q * 29) 29
   have hlt : (i - I.q * 29) / 29 < (XX[i0]).length := Nat.div_lt_of_lt_mul (by omega)
   have hm := I.m ((i - I.q * 29) / 29) ((i - I.q * 29) % 29) (by omega) (Nat.mod_lt _ (by omega))
   have hc := left.mem _ _ _ hm
   rw [zY at2, show I.q * 29 + (i - I.q * 29) / 29 * 29 + (i - I.q * 29) % 29 = i by omega, Array.getElem?_eq_getElem h] at hc
   rw [Option.some.inj hc]
   exact h3.of0
 have s1 : (s.ap (.box 78 (some E))).tk (vk 78) = none := t78
 have h3 := h2.adopt 78 (by omega) f78 t78 I.g E (.inl hold2) (λ o => m_no _ o f1 (.inr rfl)) (Nat.le_trans h.size f1) (λ b _ => nox _ f1 b) (λ t sp _ hs => nos _ f1 t sp hs)
 have h4 := h3.setcap (vk 78) s1 ⟨I.g, 0, I.q * 29 + I.cap * 29⟩ ⟨cc2, ty2, at2, sz2⟩
 obtain ⟨s2, hs2⟩ : ∃ s2, s2 = (s.ap (.box 78 (some E))).ap (.tok (vk 78) false) := ⟨_, rfl⟩
 rw [<- hs2] at h4
 have b77 : s2.bx 77 = none := by
  rw [hs2]
  show (s.ap (.box 78 (some E))).bx 77 = none
  rw [AS.bx_set, if_neg (by omega)]; exact f77
 have k77 : s2.tk (vk 77) = none := by
  rw [hs2, AS.tk_set, if_neg (by unfold vk; omega)]; exact t77
 obtain ⟨D, hD⟩ : ∃ D, D = (XX.map λ x => AV.list 29 x none).set i0 (.vs 78 I.q (XX[i0]).length 29) := ⟨_, rfl⟩
 have hDl : D.length = N := by rw [hD, List.length_set, List.length_map, hN]
 have hold1 : Hold0 M2 (zam ρ 78 I.g) (jd σ (vk 78) ⟨I.g, 0, I.q * 29 + I.cap * 29⟩) w' g D := by
  refine ⟨ccs, ty, at1, by omega, λ i h _ => at1.one i h, λ k h h' => ?_⟩
  have hk : k < N := by omega
  by_cases hk0 : k = i0
  ·subst hk0
   have e1 : D[k] = .vs 78 I.q (XX[k]).length 29 := by simp only [hD]; rw [List.getElem_set_self]
   rw [e1]
   have hv : Rd M2 (zam ρ 78 I.g) (jd σ (vk 78) ⟨I.g, 0, I.q * 29 + I.cap * 29⟩) (.slice (some ⟨I.g, I.q * 29, none⟩) (RR[k]'(by omega)).length I.cap) (.vs 78 I.q (XX[k]).length 29) := by
    rw [hxl]
    exact .vs (by simp [zam]) hle ⟨⟨I.g, 0, I.q * 29 + I.cap * 29⟩, by simp [jd], rfl, by rw [Nat.add_mul]⟩
   exact Eq.mpr (congrArg (λ c => Rd M2 (zam ρ 78 I.g) (jd σ (vk 78) ⟨I.g, 0, I.q * 29 + I.cap * 29⟩) c (.vs 78 I.q (XX[k]).length 29)) I.e) hv
  ·have e1 : D[k] = AV.list 29 XX[k] none := by
    simp only [hD]
    rw [List.getElem_set_ne (by omega), List.getElem_map]
   rw [e1]
   rcases inn k hk with ⟨e, hr⟩ | ⟨⟨J⟩⟩
   ·have := lens k hk
    rw [e] at this
    rw [List.length_eq_zero_iff.1 this.symm]
    exact hr _ _ _
   ·obtain ⟨j1, j2⟩ := fresh k hk J
    have j3 : J.g ≠ I.g := λ e => by
     have := left.inj _ (lv k hk) _ (lv i0 hi') J.sp I.sp J.tok I.tok (by rw [J.sg, I.sg, e])
     omega
    obtain ⟨e2, e3⟩ := hf k (by omega) (by omega)
    rw [J.e]
    refine .list J.cf (by omega) J.le (λ r h => hw _ (List.getElem_mem _) _ (List.getElem_mem _)) (λ r j h5 h6 => ?_) J.one (λ r j h5 h6 => ?_) .none
    ·rw [m_new _ _ j1 j2 j3]; exact J.m r j (by omega) h6
    ·obtain ⟨e4, e5⟩ := e3 r (by omega) h5
     rw [J.c r j (by omega) (by omega)]
     exact up _ _ (e5 j (by omega) h6).2
 have h5 := h4.adopt 77 (by rw [hs2]; exact hn) b77 k77 g D (.inl hold1) (λ o => m_no _ o hgf (.inl rfl)) (Nat.le_trans h.size hgf) (λ b _ e => by
   unfold zam at e
   split at e
   ·exact f2 (Option.some.inj e)
   ·exact nox _ hgf b e) (λ t sp ht hs e => by
   unfold jd at hs
   split at hs
   ·rename_i ht2
    rw [ht2, hs2, AS.tk_set, if_pos rfl] at ht
    cases ht
   ·exact nos _ hgf t sp hs e)
 have hcapd := left.cap _ spd d1
 rw [d2] at hcapd
 have h6 := h5.setcap (vk 77) (show (s2.ap (.box 77 (some D))).tk (vk 77) = none from k77) spd (by rw [d2]; exact hcapd)
 refine ⟨_, I.q, M2, _, _, congrArg Value.agg ecs, o0, ?_, by rw [<- hE, <- hD, <- hs2]; exact h6⟩
 rw [hN]
 exact .vs (by simp [zam]) v2 ⟨spd, by simp [jd], d2, d3⟩
end
end
section
open Go.RowKit
set_option maxRecDepth 4000
set_option maxHeartbeats 4000000
theorem zbK {P : Program} {ops : Array Oper} {Q : Exit -> Act -> World -> Prop} {a : Act} {w : World} {i : Nat} {l : List Nat} {o : Oper} (hx : ops[i]? = some o) (hg : o.guard = none) (h : o.wp P a w (wpOps P ops Q l) Q) : wpOps P ops Q (i :: l) a w := by
 unfold wpOps
 rw [hx]
 simp only
 rw [if_pos (by unfold Region.wanted; rw [hg])]
 exact .inl h
def sqL : Code -> Code
 | .seq a _ => a
 | _ => .skip
def sqR : Code -> Code
 | .seq _ b => b
 | _ => .skip
def rgO : Code -> Array Oper
 | .region _ o _ => o
 | _ => #[]
noncomputable abbrev TB : Tab := zbv Tryz.prog
noncomputable def G12 : GamK := gam (P := Tryz.prog) [zfF 600, zwB 600, zwz 600, zwS 600]
noncomputable def zuj : Code := Tryz.f12.body.getD .skip
noncomputable def b1 : Code := sqR zuj
noncomputable def b2 : Code := sqR b1
noncomputable def b3 : Code := sqR b2
noncomputable def b4 : Code := sqR b3
noncomputable def b5 : Code := sqR b4
noncomputable def b6 : Code := sqR b5
def zrR : Nat -> Keep × Keep := anF [] [(100020, ([], [((5, 0), 1)]))]
noncomputable abbrev ziQ {α : Type} (c : Code) (s : AS) (K : Exit -> AS -> Option α) : Option α := je TB G12 zrR (lam 600 []) c 0 s K
noncomputable abbrev kp2 : Exit -> AS -> Option (Exit × AS) := λ e s => some (e, s)
theorem zvq {B : Base} {s s' : AS} {a : Act} {w : World} {e : Exit} (c : Code) (hl : zcg zrR c 0 = []) (h : ziQ c s kp2 = some (e, s')) (hS : Sim B s a w) (Q : Exit -> Act -> World -> Prop) (hQ : ∀ a' w', Sim B s' a' w' -> Q e a' w') : c.wp Tryz.prog Q a w :=
 Jz (zc Tryz.prog) (jn _) zf zrR (lam 600 []) c 0 (λ p hp hact => by have := List.mem_filter.2 ⟨hp, hact⟩; rw [show (zK c 0).filter (zfx zrR) = [] from hl] at this; cases this) (Exit × AS) s kp2 (e, s') B a w Q h hS λ e1 s1 a' w' hk hS' => by
  have hk' := Option.some.inj hk
  cases hk'
  exact hQ a' w' hS'
noncomputable def st0 (X Lr : List (List AV)) (p : Int) : AS := zaM 92 [] [] [AV.ptr 0 0, AV.agg [AV.list 1 X none]] [[AV.list 1 Lr none, AV.v (.int .i64 p)]]
noncomputable def st1 (X Lr : List (List AV)) (p : Int) : AS := (st0 X Lr p).aps [.box 3 (some [AV.list 1 X none]), .env 3 (.ptr 3 0), .box 4 (some [AV.v (.slice none 0 0)]), .env 4 (.ptr 4 0)]
noncomputable def st2 (X Lr : List (List AV)) (p : Int) : AS := (st1 X Lr p).ap (.env 8 (.agg [AV.list 1 X none]))
def DD (XX : List (List (List AV))) (i0 q n : Nat) : List AV := (XX.map λ x => AV.list 29 x none).set i0 (.vs 78 q n 29)
def EE (x : List (List AV)) (q : Nat) : List AV := List.replicate (q * 29) AV.any ++ x.flatten
noncomputable def st3 (X Lr : List (List AV)) (p : Int) (N : Nat) (D E : List AV) : AS := (((((st2 X Lr p).ap (.box 78 (some E))).ap (.tok (vk 78) false)).ap (.box 77 (some D))).ap (.tok (vk 77) false)).ap (.env 9 (.agg [.vs 77 0 N 1]))
noncomputable def st4 (X Lr : List (List AV)) (p : Int) (N : Nat) (D E : List AV) : AS := (st3 X Lr p N D E).aps [.box 5 (some [AV.v (.slice none 0 0)]), .env 5 (.ptr 5 0), .box 5 (some [.vs 77 0 N 1])]
theorem zCZ (X Lr : List (List AV)) (p : Int) : ziQ (sqL zuj) (st0 X Lr p) kp2 = some (.normal, st1 X Lr p) := by kernel_rfl
theorem zzS : sqL b1 = .region 1 (rgO (sqL b1)) false := by kernel_rfl
theorem zC1 : (rgO (sqL b1)).size = 4 := by kernel_rfl
theorem zC0 {B : Base} {Lr : List (List AV)} {p : Int} {XX : List (List (List AV))} (hX : XX.length <= 500) (hm : ∀ x ∈ XX, x.length <= 1000) (hw : ∀ x ∈ XX, ∀ r ∈ x, r.length = 29) {i0 : Nat} (hi : i0 < XX.length) (hne : XX[i0] ≠ []) {a : Act} {w : World} (hS : Sim B (st1 (zL XX) Lr p) a w) (Q : Exit -> Act -> World -> Prop)
  (hQ : ∀ (q : Nat) a' w', Sim B (st4 (zL XX) Lr p XX.length (DD XX i0 q (XX[i0]).length) (EE XX[i0] q)) a' w' -> Q .normal a' w') : (sqL b1).wp Tryz.prog Q a w := by
 rw [zzS]
 refine wp_region ?_
 rw [zC1]
 show wpOps Tryz.prog (rgO (sqL b1)) Q [0, 1, 2, 3] a w
 obtain ⟨o0, h0, g0, e0⟩ : ∃ o, (rgO (sqL b1))[0]? = some o /\ o.guard = none /\ ∀ X Lr p, Jr TB G12.v o (st1 X Lr p) = some [.env 8 (.agg [AV.list 1 X none])] := ⟨_, rfl, rfl, λ X Lr p => by kernel_rfl⟩
 refine zbK h0 g0 (zfu (zc Tryz.prog) (jn _) hS (e0 _ _ _) _ _ λ a1 w1 hS1 => ?_)
 obtain ⟨o1, h1, g1, d1, e1⟩ : ∃ o, (rgO (sqL b1))[1]? = some o /\ o.guard = none /\ o.dst = some 9 /\ o.op = .call { callee := .value (.func 44), args := #[.tmp 8], argTypes := #[24] } := ⟨_, rfl, rfl, rfl, rfl⟩
 refine zbK h1 g1 ?_
 obtain ⟨M, ρ, σ, h⟩ := hS1
 replace h : SimW B M ρ σ (st2 (zL XX) Lr p) a1 w1 := h
 have hv := h.env 8
 replace hv : Rd M ρ σ (a1.tmps.getD 8 undef) (.agg [AV.list 1 (zL XX) none]) := hv
 generalize hcv : a1.tmps.getD 8 undef = cv8 at hv
 cases hv with
 | @agg _ _ cs _ q1 q2 q3 =>
 have hcs : cs.size = 1 := q1
 obtain ⟨RR, k1, k2, k3⟩ := zvn (q3 0 (by omega) (by simp))
 have hlen : (RR.map rwA).length = XX.length := by rw [List.length_map, k1]
 have hcopy := zCC (RR.map rwA) (by omega) (λ x hx => by
  obtain ⟨R, hR, rfl⟩ := List.mem_map.1 hx
  obtain ⟨j, hj, rfl⟩ := List.getElem_of_mem hR
  rw [Jq, (k2 j hj (by omega)).1]
  exact hm _ (List.getElem_mem _))
 have hcall : CallOk Tryz.prog 44 [AV.agg [AV.list 1 (zL (RR.map rwA)) none]] [] ⟨.agg [.vs 0 0 XX.length 1], [], some (csx 0 (RR.map rwA)), [], [], [], some (0, XX.length)⟩ := by
  have := (zlV 600).ok _ _ hcopy
  rw [hlen] at this
  exact this
 have hra : Rd M ρ σ (.agg cs) (.agg [AV.list 1 (zL (RR.map rwA)) none]) := by
  refine .agg q1 q2 λ i h h' => ?_
  have : i = 0 := by simp at h'; exact h'
  subst this
  exact k3
 obtain ⟨⟨fn, w1', w2', w3'⟩, call⟩ := hcall
 have hWs : ∃ W, zbu (st2 (zL XX) Lr p) [] o1.dst (zaN (st2 (zL XX) Lr p) 0 [AV.agg [AV.list 1 (zL (RR.map rwA)) none]] ++ jv (st2 (zL XX) Lr p) 0 []) ⟨.agg [.vs 0 0 XX.length 1], [], some (csx 0 (RR.map rwA)), [], [], [], some (0, XX.length)⟩ = some W := by
  rw [d1]
  exact ⟨_, rfl⟩
 obtain ⟨W, hW⟩ := hWs
 have hargs : jV (st2 (zL XX) Lr p) (idx []) 0 [AV.agg [AV.list 1 (zL (RR.map rwA)) none]] = [AV.agg [AV.list 1 (zL (RR.map rwA)) none]] := rfl
 obtain ⟨σ0, C, -, -⟩ := zcx (Z := λ M w cargs gs σ => Calls Tryz.prog 44 cargs w λ e w' => ∃ c M' σ' gn, e = .returned c /\ Left M w gs σ ⟨.agg [.vs 0 0 XX.length 1], [], some (csx 0 (RR.map rwA)), [], [], [], some (0, XX.length)⟩ c M' w' σ' gn) (o := o1) (cargs := #[.agg cs]) (vs := [AV.agg [AV.list 1 (zL (RR.map rwA)) none]]) (l := []) (bs := []) h rfl (λ i h1 h2 => by
   have : i = 0 := by simp at h2; exact h2
   subst this
   exact hra) rfl rfl hW (by rw [hargs]; exact call)
 unfold Oper.wp
 have ex : (execOp a1.eval o1).run Tryz.prog w1 = .ok (.enter 44 #[.agg cs]) w1 := by
  unfold execOp
  have hq : a1.eval (.func 44) = .func (.func 44) #[] #[] := rfl
  have hq8 : a1.eval (.tmp 8) = .agg cs := hcv
  simp only [e1, resolve, hq, Deferred.ofValue, Sem.run_bind, Sem.run_pure, Result.andThen_ok, invoke, callFunc]
  have q2' : ¬ (fn.name = "runtime.NumGoroutine") := λ e => by rw [e] at w2'; simp at w2'
  have q3' : ¬ (fn.body = none) := λ e => by rw [e] at w3'; simp at w3'
  simp [w1', q2', q3', hq8]
 rw [ex, Oper.upon_enter]
 refine C.mono λ e w' ⟨c, M', σ', gn, he, left⟩ => ?_
 subst he
 obtain ⟨cv, q, M2, ρ2, σ2, rfl, c2, c3, c4⟩ := thaw h (by omega) k2 hw hi hne rfl rfl rfl rfl (show 1 <= 77 by omega) left
 have h5 := c4.put (c := .agg #[cv]) (v := .agg [.vs 77 0 XX.length 1]) (.agg rfl (λ i hi => by
   have : i = 0 := by simpa using hi
   subst this; exact c2) (λ i hi hi' => by
   have : i = 0 := by simpa using hi
   subst this; exact c3)) 9
 rw [d1]
 replace h5 : Sim B (st3 (zL XX) Lr p XX.length (DD XX i0 q (XX[i0]).length) (EE XX[i0] q)) (a1.put (some 9) (.agg #[cv])) w' := ⟨_, _, _, h5⟩
 obtain ⟨o2, h2, g2, e2⟩ : ∃ o, (rgO (sqL b1))[2]? = some o /\ o.guard = none /\ ∀ X Lr p N D E, Jr TB G12.v o (st3 X Lr p N D E) = some [.box 5 (some [AV.v (.slice none 0 0)]), .env 5 (.ptr 5 0)] := ⟨_, rfl, rfl, λ X Lr p N D E => by kernel_rfl⟩
 refine zbK h2 g2 (zfu (zc Tryz.prog) (jn _) h5 (e2 _ _ _ _ _ _) _ _ λ a2 w2 hS2 => ?_)
 obtain ⟨o3, h3, g3, e3⟩ : ∃ o, (rgO (sqL b1))[3]? = some o /\ o.guard = none /\ ∀ X Lr p N D E, Jr TB G12.v o ((st3 X Lr p N D E).aps [.box 5 (some [AV.v (.slice none 0 0)]), .env 5 (.ptr 5 0)]) = some [.box 5 (some [.vs 77 0 N 1])] := ⟨_, rfl, rfl, λ X Lr p N D E => by kernel_rfl⟩
 refine zbK h3 g3 (zfu (zc Tryz.prog) (jn _) hS2 (e3 _ _ _ _ _ _) _ _ λ a3 w3 hS3 => ?_)
 exact hQ q a3 w3 hS3
end
section
open Go.RowKit
set_option maxRecDepth 4000
set_option maxHeartbeats 4000000
noncomputable def st5 (X Lr : List (List AV)) (p : Int) (N : Nat) (D E : List AV) : AS := (st4 X Lr p N D E).aps [.env 10 (.ptr 5 0), .env 11 (.vs 77 0 N 1), .env 12 (.v (.int .i64 (N : Int))), .env 13 (.v (.bool ((N : Int) == 0)))]
theorem zC2 (X Lr : List (List AV)) (p : Int) (N : Nat) (D E : List AV) : ziQ (sqL (sqL b2)) (st4 X Lr p N D E) kp2 = some (.normal, st5 X Lr p N D E) := by kernel_rfl
theorem zCA : ∃ A, sqR (sqL b2) = .cond (.tmp 13) A .skip := ⟨_, rfl⟩
theorem zC3 {B : Base} {X Lr : List (List AV)} {p : Int} {N : Nat} (hN : 0 < N) {D E : List AV} {a : Act} {w : World} (hS : Sim B (st4 X Lr p N D E) a w) (Q : Exit -> Act -> World -> Prop) (hQ : ∀ a' w', Sim B (st5 X Lr p N D E) a' w' -> Q .normal a' w') : (sqL b2).wp Tryz.prog Q a w := by
 show (Code.seq (sqL (sqL b2)) (sqR (sqL b2))).wp Tryz.prog Q a w
 refine wp_seq (zvq _ (by kernel_rfl) (zC2 X Lr p N D E) hS _ λ a1 w1 hS1 => ?_)
 obtain ⟨A, hA⟩ := zCA
 show (sqR (sqL b2)).wp Tryz.prog Q a1 w1
 rw [hA]
 have hS2 := hS1
 obtain ⟨M, ρ, σ, h⟩ := hS1
 have hc := h.env 13
 replace hc : Rd M ρ σ (a1.tmps.getD 13 undef) (.v (.bool ((N : Int) == 0))) := hc
 have e : ((N : Int) == 0) = false := by simp; omega
 rw [e] at hc
 exact wp_cond_false hc.v_inv (wp_skip (hQ a1 w1 hS2))
noncomputable def st6 (X Lr : List (List AV)) (p : Int) (N : Nat) (D E : List AV) (y : Int × List (List AV) × Int) : AS := (st5 X Lr p N D E).aps [.env 15 (.ptr 5 0), .env 16 (.vs 77 0 N 1), .env 17 (.ptr 0 0), .env 18 (.ptr 5 0), .env 19 (.vs 77 0 N 1), .env 20 (.v (.int .i64 (N : Int))), .box 0 (some []), .box 0 (some [AV.list 1 y.2.1 none, AV.v (.int .i64 y.2.2)]), .env 21 (.v (.int .i64 y.1)), .env 22 (.ptr 77 ((0 + y.1.toNat) * 1)), .env 6 (.ptr 77 ((0 + y.1.toNat) * 1))]
theorem zC4 (X Lr : List (List AV)) (p : Int) (N : Nat) (D E : List AV) : ziQ (sqL b3) (st5 X Lr p N D E) kp2 = (match Za 600 ((N : Int), Lr, p) with | some y => (if 0 <= y.1 /\ y.1 < (N : Int) then some (.normal, st6 X Lr p N D E y) else none) | none => none) := by kernel_rfl
theorem zC5 {B : Base} {X Lr : List (List AV)} {p : Int} {N : Nat} {D E : List AV} {i0 : Nat} (hi : i0 < N) {p1 : Int} (h1 : Za 600 ((N : Int), Lr, p) = some ((i0 : Int), Lr, p1)) {a : Act} {w : World} (hS : Sim B (st5 X Lr p N D E) a w) (Q : Exit -> Act -> World -> Prop) (hQ : ∀ a' w', Sim B (st6 X Lr p N D E ((i0 : Int), Lr, p1)) a' w' -> Q .normal a' w') : (sqL b3).wp Tryz.prog Q a w := by
 have e := zC4 X Lr p N D E
 rw [h1] at e
 exact zvq _ (by kernel_rfl) (e.trans (if_pos (by dsimp only; omega))) hS Q hQ
def zAm (ops : List Oper) : AS -> List Oper -> List (List Wr) -> Trc
 | s, o :: os, W :: Ws => (W, Zy ops s o) :: zAm ops (s.aps W) os Ws
 | _, _, _ => []
theorem ziI {T : Tab} {Γ : Gam} {ops : List Oper} : ∀ (os : List Oper) (Ws : List (List Wr)) (s : AS), os.length = Ws.length -> (∀ i (h : i < os.length) (h' : i < Ws.length), ZL T Γ ops os[i] ((Ws.take i).foldl AS.aps s) = some Ws[i]) -> zfz T Γ ops os s = some (zAm ops s os Ws, Ws.foldl AS.aps s)
 | [], [], s, _, _ => rfl
 | o :: os, W :: Ws, s, hl, h => by
  have h0 := h 0 (by simp) (by simp)
  have ih := ziI os Ws (s.aps W) (by simpa using hl) λ i hi hi' => h (i + 1) (by simpa using hi) (by simpa using hi')
  have h0' : ZL T Γ ops o s = some W := h0
  unfold zfz
  rw [h0']
  simp only [ih, zAm, List.foldl_cons]
noncomputable def op5 : List Oper := (rgO (sqL b4)).toList
theorem zzT : sqL b4 = .region 5 (rgO (sqL b4)) true := by kernel_rfl
noncomputable def W5 (off q n : Nat) (y : Int × List (List AV) × Int) : List (List Wr) := [[.env 23 (.ptr 77 off)], [.env 24 (.ptr 77 off)], [.env 25 (.ptr 77 (off + 0))], [.env 26 (.vs 78 q n 29)], [.env 27 (.ptr 0 0)], [.env 28 (.ptr 77 off)], [.env 29 (.ptr 77 off)], [.env 30 (.ptr 77 (off + 0))], [.env 31 (.vs 78 q n 29)], [.env 32 (.v (.int .i64 (n : Int)))], [.box 0 (some []), .box 0 (some [AV.list 1 y.2.1 none, AV.v (.int .i64 y.2.2)]), .env 33 (.v (.int .i64 y.1))], [.env 34 (.ptr 78 ((q + y.1.toNat) * 29))], [.env 7 (.ptr 78 ((q + y.1.toNat) * 29))]]
noncomputable def st7 (s : AS) (off q n : Nat) (y : Int × List (List AV) × Int) : AS := (W5 off q n y).foldl AS.aps s
noncomputable def zkw (X Lr : List (List AV)) (p : Int) (N : Nat) (D E : List AV) (i0 : Nat) (p1 : Int) : AS := (st5 X Lr p N D E).aps [.env 15 (.ptr 5 0), .env 16 (.vs 77 0 N 1), .env 17 (.ptr 0 0), .env 18 (.ptr 5 0), .env 19 (.vs 77 0 N 1), .env 20 (.v (.int .i64 (N : Int))), .box 0 (some []), .box 0 (some [AV.list 1 Lr none, AV.v (.int .i64 p1)]), .env 21 (.v (.int .i64 (i0 : Int))), .env 22 (.ptr 77 i0), .env 6 (.ptr 77 i0)]
theorem zAh (X Lr : List (List AV)) (p : Int) (N : Nat) (D E : List AV) (i0 : Nat) (p1 : Int) : st6 X Lr p N D E ((i0 : Int), Lr, p1) = zkw X Lr p N D E i0 p1 := by
 unfold st6 zkw
 simp only [Int.toNat_natCast, Nat.zero_add, Nat.mul_one]
def dumO : Oper := { dst := none, op := .move (.tmp 0), type := 0, pos := "", after := #[], guard := none }
noncomputable def o5 (k : Nat) : Oper := (op5[k]?).getD dumO
theorem zzC : op5 = [o5 0, o5 1, o5 2, o5 3, o5 4, o5 5, o5 6, o5 7, o5 8, o5 9, o5 10, o5 11, o5 12] := by kernel_rfl
noncomputable def sm (X Lr : List (List AV)) (p : Int) (N : Nat) (D E : List AV) (i0 : Nat) (p1 : Int) (q n : Nat) (y : Int × List (List AV) × Int) (k : Nat) : AS := ((W5 i0 q n y).take k).foldl AS.aps (zkw X Lr p N D E i0 p1)
section
variable (X Lr : List (List AV)) (p : Int) (N : Nat) (D E : List AV) (i0 : Nat) (p1 : Int) (q n : Nat) (y : Int × List (List AV) × Int)
theorem g5_0 : ZL TB G12.v op5 (o5 0) (sm X Lr p N D E i0 p1 q n y 0) = some [.env 23 (.ptr 77 i0)] := by kernel_rfl
theorem g5_1 : ZL TB G12.v op5 (o5 1) (sm X Lr p N D E i0 p1 q n y 1) = some [.env 24 (.ptr 77 i0)] := by kernel_rfl
theorem g5_2 : ZL TB G12.v op5 (o5 2) (sm X Lr p N D E i0 p1 q n y 2) = some [.env 25 (.ptr 77 (i0 + 0))] := by kernel_rfl
theorem g5_3 : zc7 TB G12 (o5 3) (sm X Lr p N D E i0 p1 q n y 3) some = (match D[i0]? with | some x => zcG (.slice 82) x (λ v => some [Wr.env 26 v]) | none => none) := by kernel_rfl
theorem g5_4 : ZL TB G12.v op5 (o5 4) (sm X Lr p N D E i0 p1 q n y 4) = some [.env 27 (.ptr 0 0)] := by kernel_rfl
theorem g5_5 : ZL TB G12.v op5 (o5 5) (sm X Lr p N D E i0 p1 q n y 5) = some [.env 28 (.ptr 77 i0)] := by kernel_rfl
theorem g5_6 : ZL TB G12.v op5 (o5 6) (sm X Lr p N D E i0 p1 q n y 6) = some [.env 29 (.ptr 77 i0)] := by kernel_rfl
theorem g5_7 : ZL TB G12.v op5 (o5 7) (sm X Lr p N D E i0 p1 q n y 7) = some [.env 30 (.ptr 77 (i0 + 0))] := by kernel_rfl
theorem g5_8 : zc7 TB G12 (o5 8) (sm X Lr p N D E i0 p1 q n y 8) some = (match D[i0]? with | some x => zcG (.slice 82) x (λ v => some [Wr.env 31 v]) | none => none) := by kernel_rfl
theorem g5_9 : ZL TB G12.v op5 (o5 9) (sm X Lr p N D E i0 p1 q n y 9) = some [.env 32 (.v (.int .i64 (n : Int)))] := by kernel_rfl
theorem zCP : zc7 TB G12 (o5 10) (sm X Lr p N D E i0 p1 q n y 10) some = (match Za 600 ((n : Int), Lr, p1) with | some z => some [.box 0 (some []), .box 0 (some [AV.list 1 z.2.1 none, AV.v (.int .i64 z.2.2)]), .env 33 (.v (.int .i64 z.1))] | none => none) := by kernel_rfl
theorem zCQ : zc7 TB G12 (o5 11) (sm X Lr p N D E i0 p1 q n y 11) some = (if 0 <= y.1 /\ y.1 < (n : Int) then some [.env 34 (.ptr 78 ((q + y.1.toNat) * 29))] else none) := by kernel_rfl
theorem zCR : ZL TB G12.v op5 (o5 12) (sm X Lr p N D E i0 p1 q n y 12) = some [.env 7 (.ptr 78 ((q + y.1.toNat) * 29))] := by kernel_rfl
theorem noc5 : zei (zAm op5 (zkw X Lr p N D E i0 p1) [o5 0, o5 1, o5 2, o5 3, o5 4, o5 5, o5 6, o5 7, o5 8, o5 9, o5 10, o5 11, o5 12] (W5 i0 q n y)) (zuk op5 []) 0 = true := by kernel_rfl
theorem zCG : zj8 (rgO (sqL b4)) = true := by kernel_rfl
end
theorem zAt {o : Oper} {s : AS} {W : List Wr} (hg : o.guard = none) (h : zc7 TB G12 o s some = some W) : ZL TB G12.v op5 o s = some W := by
 unfold ZL zkt
 rw [hg]
 obtain ⟨W', h1, h2⟩ := zft h
 cases h2
 exact h1
theorem run5 {X Lr : List (List AV)} {p : Int} {N : Nat} {D E : List AV} {i0 : Nat} {p1 : Int} {q n j : Nat} {p2 : Int} (hD : D[i0]? = some (.vs 78 q n 29)) (h1 : Za 600 ((n : Int), Lr, p1) = some ((j : Int), Lr, p2)) (hj : j < n) :
  zfz TB G12.v op5 op5 (zkw X Lr p N D E i0 p1) = some (zAm op5 (zkw X Lr p N D E i0 p1) [o5 0, o5 1, o5 2, o5 3, o5 4, o5 5, o5 6, o5 7, o5 8, o5 9, o5 10, o5 11, o5 12] (W5 i0 q n ((j : Int), Lr, p2)), st7 (zkw X Lr p N D E i0 p1) i0 q n ((j : Int), Lr, p2)) := by
 have e3 := g5_3 X Lr p N D E i0 p1 q n ((j : Int), Lr, p2)
 have e8 := g5_8 X Lr p N D E i0 p1 q n ((j : Int), Lr, p2)
 have e10 := zCP X Lr p N D E i0 p1 q n ((j : Int), Lr, p2)
 have e11 := zCQ X Lr p N D E i0 p1 q n ((j : Int), Lr, p2)
 rw [hD] at e3 e8
 rw [h1] at e10
 replace e11 := e11.trans (if_pos (by dsimp only; omega))
 have k3 := zAt (o := o5 3) (by kernel_rfl) e3
 have k8 := zAt (o := o5 8) (by kernel_rfl) e8
 have k10 := zAt (o := o5 10) (by kernel_rfl) e10
 have k11 := zAt (o := o5 11) (by kernel_rfl) e11
 have h := ziI (T := TB) (Γ := G12.v) (ops := op5) [o5 0, o5 1, o5 2, o5 3, o5 4, o5 5, o5 6, o5 7, o5 8, o5 9, o5 10, o5 11, o5 12] (W5 i0 q n ((j : Int), Lr, p2)) (zkw X Lr p N D E i0 p1) rfl λ i hi hi' => by
  rcases (show i = 0 \/ i = 1 \/ i = 2 \/ i = 3 \/ i = 4 \/ i = 5 \/ i = 6 \/ i = 7 \/ i = 8 \/ i = 9 \/ i = 10 \/ i = 11 \/ i = 12 by have : i < 13 := hi; omega) with rfl | rfl | rfl | rfl | rfl | rfl | rfl | rfl | rfl | rfl | rfl | rfl | rfl
  ·exact g5_0 X Lr p N D E i0 p1 q n ((j : Int), Lr, p2)
  ·exact g5_1 X Lr p N D E i0 p1 q n ((j : Int), Lr, p2)
  ·exact g5_2 X Lr p N D E i0 p1 q n ((j : Int), Lr, p2)
  ·exact k3
  ·exact g5_4 X Lr p N D E i0 p1 q n ((j : Int), Lr, p2)
  ·exact g5_5 X Lr p N D E i0 p1 q n ((j : Int), Lr, p2)
  ·exact g5_6 X Lr p N D E i0 p1 q n ((j : Int), Lr, p2)
  ·exact g5_7 X Lr p N D E i0 p1 q n ((j : Int), Lr, p2)
  ·exact k8
  ·exact g5_9 X Lr p N D E i0 p1 q n ((j : Int), Lr, p2)
  ·exact k10
  ·exact k11
  ·exact zCR X Lr p N D E i0 p1 q n ((j : Int), Lr, p2)
 rw [show zfz TB G12.v op5 op5 = zfz TB G12.v op5 [o5 0, o5 1, o5 2, o5 3, o5 4, o5 5, o5 6, o5 7, o5 8, o5 9, o5 10, o5 11, o5 12] from congrArg (zfz TB G12.v op5) zzC]
 exact h
theorem zC6 {B : Base} {X Lr : List (List AV)} {p : Int} {N : Nat} {D E : List AV} {i0 : Nat} {p1 : Int} {q n j : Nat} {p2 : Int} (hD : D[i0]? = some (.vs 78 q n 29)) (h1 : Za 600 ((n : Int), Lr, p1) = some ((j : Int), Lr, p2)) (hj : j < n) {a : Act} {w : World} (hS : Sim B (zkw X Lr p N D E i0 p1) a w) (Q : Exit -> Act -> World -> Prop) (hQ : ∀ a' w', Sim B (st7 (zkw X Lr p N D E i0 p1) i0 q n ((j : Int), Lr, p2)) a' w' -> Q .normal a' w') : (sqL b4).wp Tryz.prog Q a w := by
 rw [zzT]
 refine wp_region_any zf ?_
 have ea : rgO (sqL b4) = op5.toArray := by unfold op5; simp
 have hd := zCG
 rw [ea] at hd |-
 exact zm6 (zc Tryz.prog) (jn _) hd (run5 hD h1 hj) (noc5 _ _ _ _ _ _ _ _ _ _ _) hS hQ
end
section
open Go.RowKit
set_option maxRecDepth 4000
set_option maxHeartbeats 4000000
def fe (s : AS) : AS := { s with env := s.env.mapIdx λ i v => bif (i == 4 || i == 5) then v else .any }
theorem zCL {B : Base} {s : AS} {a : Act} {w : World} (hS : Sim B s a w) : Sim B (fe s) a w := by
 obtain ⟨M, ρ, σ, h⟩ := hS
 refine ⟨M, ρ, σ, { h with len := by simp [fe, h.len], env := λ t => ?_ }⟩
 have e : (fe s).at t = s.at t \/ (fe s).at t = .any := by
  unfold AS.at fe
  simp only [List.getElem?_mapIdx]
  cases s.env[t]? with
  | none => exact .inr rfl
  | some v =>
   simp only [Option.map_some, Option.getD_some]
   cases (t == 4 || t == 5)
   ·exact .inr rfl
   ·exact .inl rfl
 rcases e with e | e
 ·rw [e]; exact h.env t
 ·rw [e]; exact .any
def f8 (s : AS) (bx : List (Nat × Option (List AV))) (tk : List (Nat × Bool)) : AS := fe { s with box := bx ++ s.box, tok := tk ++ s.tok }
noncomputable def s7 (X Lr : List (List AV)) (p : Int) (N : Nat) (D E : List AV) (i0 : Nat) (p1 : Int) (q n j : Nat) (p2 : Int) (o : Nat) : AS := (zkw X Lr p N D E i0 p1).aps [.env 23 (.ptr 77 i0), .env 24 (.ptr 77 i0), .env 25 (.ptr 77 (i0 + 0)), .env 26 (.vs 78 q n 29), .env 27 (.ptr 0 0), .env 28 (.ptr 77 i0), .env 29 (.ptr 77 i0), .env 30 (.ptr 77 (i0 + 0)), .env 31 (.vs 78 q n 29), .env 32 (.v (.int .i64 (n : Int))), .box 0 (some []), .box 0 (some [AV.list 1 Lr none, AV.v (.int .i64 p2)]), .env 33 (.v (.int .i64 (j : Int))), .env 34 (.ptr 78 o), .env 7 (.ptr 78 o)]
theorem zC8 (X Lr : List (List AV)) (p : Int) (N : Nat) (D E : List AV) (i0 : Nat) (p1 : Int) (q n j : Nat) (p2 : Int) : st7 (zkw X Lr p N D E i0 p1) i0 q n ((j : Int), Lr, p2) = s7 X Lr p N D E i0 p1 q n j p2 ((q + j) * 29) := by
 unfold s7 st7 W5
 simp only [Int.toNat_natCast]
 rfl
def bx0 (y : List (List AV) × Int) : List (Nat × Option (List AV)) := [(0, some [AV.list 1 y.1 none, AV.v (.int .i64 y.2)]), (0, some [])]
noncomputable abbrev kfe : Exit -> AS -> Option (Exit × AS) := λ e s => some (e, fe s)
def opA : List (List AV) := [[(AV.v (.int .i64 (-1)))], [(AV.v (.int .i64 0))], [(AV.v (.int .i64 18014398509481984))], [(AV.v (.int .i64 18014398509481985))]]
def opT : List (List AV) := [[(AV.v (.string (⟨#[]⟩ : ByteArray)))], [(AV.v (.string (⟨#[97, 110, 110]⟩ : ByteArray)))], [(AV.v (.string (⟨#[65, 110, 110]⟩ : ByteArray)))], [(AV.v (.string (⟨#[97, 98, 99, 100, 101, 102, 103, 104, 105, 106, 107, 108, 109, 110, 111, 112, 113]⟩ : ByteArray)))]]
theorem zzU (X Lr : List (List AV)) (p : Int) (N : Nat) (D E : List AV) (i0 : Nat) (p1 : Int) (q n j : Nat) (p2 : Int) (o : Nat) : ziQ (sqL b5) (s7 X Lr p N D E i0 p1 q n j p2 o) kfe =
 (match Za 600 (7, Lr, p2) with
 | some y3 => (match (y3.1 == 0) with
  | true => (match Za 600 (9, y3.2) with
   | some y4 => (if (o + 0) + 1 <= E.length then some (.normal, f8 (s7 X Lr p N D E i0 p1 q n j p2 o) ((78, some (splice E (o + 0) [AV.v (.int .i64 (i64 (y4.1 - 1)))])) :: (bx0 y4.2 ++ bx0 y3.2)) []) else none)
   | none => none)
  | false => (match (y3.1 == 1) with
   | true => (match zjy 600 (opA, y3.2) with
    | some y5 => (if (o + 1) + 1 <= E.length then some (.normal, f8 (s7 X Lr p N D E i0 p1 q n j p2 o) ((78, some (splice E (o + 1) [AV.v (.int .i64 y5.1)])) :: (bx0 y5.2 ++ bx0 y3.2)) [(3840, true)]) else none)
    | none => none)
   | false => (match (y3.1 == 2) with
    | true => (match zat 600 (opT, y3.2) with
     | some y6 => (if (o + 2) + 1 <= E.length then some (.normal, f8 (s7 X Lr p N D E i0 p1 q n j p2 o) ((78, some (splice E (o + 2) [AV.v (.string y6.1)])) :: (bx0 y6.2 ++ bx0 y3.2)) [(4352, true)]) else none)
     | none => none)
    | false => (match (y3.1 == 3) with
     | true => (match Za 600 (5, y3.2) with
      | some y7 => (if (o + 3) + 1 <= E.length then some (.normal, f8 (s7 X Lr p N D E i0 p1 q n j p2 o) ((78, some (splice E (o + 3) [AV.v (.int .i64 (i64 (y7.1 - 1)))])) :: (bx0 y7.2 ++ bx0 y3.2)) []) else none)
      | none => none)
     | false => (match (y3.1 == 4) with
      | true => (match zoJ 600 () with
       | some y8 => (if (o + 4) + 25 <= E.length then some (.normal, f8 (s7 X Lr p N D E i0 p1 q n j p2 o) ((78, some (splice E (o + 4) (zl y8))) :: bx0 y3.2) []) else none)
       | none => none)
      | false => (match (y3.1 == 5) with
       | true => (if (i0 + 0) + 1 <= D.length then some (.normal, f8 (s7 X Lr p N D E i0 p1 q n j p2 o) ((77, some (splice D (i0 + 0) [AV.v (.slice none 0 0)])) :: bx0 y3.2) []) else none)
       | false => (match E[((o + 4) + 0) + 4]? with
        | some x9 => (match x9 with
         | .v (.int q11 n10) => (if q11 = .i64 then (if (((o + 4) + 0) + 4) + 1 <= E.length then some (.normal, f8 (s7 X Lr p N D E i0 p1 q n j p2 o) ((78, some (splice E (((o + 4) + 0) + 4) [AV.v (.int .i64 (i64 (n10 + 1)))])) :: bx0 y3.2) []) else none) else none)
         | _ => none)
        | none => none)))))))
 | none => none) := by kernel_rfl
end
section
open Go.RowKit
set_option maxRecDepth 4000
set_option maxHeartbeats 4000000
noncomputable def s9 (s : AS) (D E : List AV) (i0 q n : Nat) : AS := ((s.ap (.box 78 none)).ap (.tok (tD 78 0) true)).ap (.box 77 (some (D.set i0 (.list 29 (zp ((ZF q 29 E).take (n * 29)) 29 n) (some (tD 78 0))))))
theorem fz78 {B : Base} {s : AS} {a : Act} {w : World} {D E : List AV} {i0 q n : Nat} (b77 : s.bx 77 = some D) (hD : D[i0]? = some (.vs 78 q n 29)) (b78 : s.bx 78 = some E) (t1 : s.tk (tD 78 0) = none) (t2 : s.tk (vk 78) = some false) (hn : s.nin <= 78) (hE : n * 29 <= (ZF q 29 E).length) (hS : Sim B s a w) : Sim B (s9 s D E i0 q n) a w := by
 have h : fzc [(77, i0)] s some = some (s9 s D E i0 q n) := by
  unfold fzc
  simp only [b77, hD, b78, t1, t2]
  rw [if_pos ⟨hn, by omega, by omega⟩, if_pos hE]
  rfl
 obtain ⟨s', e, h'⟩ := ziV _ s h hS
 cases e
 exact h'
def S12 : Shape := ⟨[[some 1]], [[some 1, none]], [], [], []⟩
def r12 (y : List (List AV) × List (List AV) × Int) : Ret := ⟨(AV.agg [(AV.list 1 y.1 none)]), [[(AV.list 1 y.2.1 none), (AV.v (.int .i64 y.2.2))]], none, [], [], [], none⟩
noncomputable abbrev zr9 : Exit -> AS -> Option Ret := λ e s => match e with
 | .ret => zrQ TB Tryz.f12 S12 s
 | _ => none
section
variable (X Lr : List (List AV)) (p : Int) (N : Nat) (D E : List AV) (i0 : Nat) (p1 : Int) (q n j : Nat) (p2 : Int) (o : Nat) (E' : List AV) (y3 y4 : List (List AV) × Int)
theorem zsk : ziQ b6 (s9 (f8 (s7 X Lr p N D E i0 p1 q n j p2 o) ((78, some E') :: (bx0 y4 ++ bx0 y3)) []) D E' i0 q n) zr9 = (if N * 1 <= (D.set i0 (.list 29 (zp ((ZF q 29 E').take (n * 29)) 29 n) (some (tD 78 0)))).length then some (r12 (zp ((D.set i0 (.list 29 (zp ((ZF q 29 E').take (n * 29)) 29 n) (some (tD 78 0)))).take (N * 1)) 1 N, y4)) else none) := by kernel_rfl
theorem zAi : ziQ b6 (s9 (f8 (s7 X Lr p N D E i0 p1 q n j p2 o) ((78, some E') :: (bx0 y4 ++ bx0 y3)) [(3840, true)]) D E' i0 q n) zr9 = (if N * 1 <= (D.set i0 (.list 29 (zp ((ZF q 29 E').take (n * 29)) 29 n) (some (tD 78 0)))).length then some (r12 (zp ((D.set i0 (.list 29 (zp ((ZF q 29 E').take (n * 29)) 29 n) (some (tD 78 0)))).take (N * 1)) 1 N, y4)) else none) := by kernel_rfl
theorem zAj : ziQ b6 (s9 (f8 (s7 X Lr p N D E i0 p1 q n j p2 o) ((78, some E') :: (bx0 y4 ++ bx0 y3)) [(4352, true)]) D E' i0 q n) zr9 = (if N * 1 <= (D.set i0 (.list 29 (zp ((ZF q 29 E').take (n * 29)) 29 n) (some (tD 78 0)))).length then some (r12 (zp ((D.set i0 (.list 29 (zp ((ZF q 29 E').take (n * 29)) 29 n) (some (tD 78 0)))).take (N * 1)) 1 N, y4)) else none) := by kernel_rfl
theorem zsl : ziQ b6 (s9 (f8 (s7 X Lr p N D E i0 p1 q n j p2 o) ((78, some E') :: bx0 y3) []) D E' i0 q n) zr9 = (if N * 1 <= (D.set i0 (.list 29 (zp ((ZF q 29 E').take (n * 29)) 29 n) (some (tD 78 0)))).length then some (r12 (zp ((D.set i0 (.list 29 (zp ((ZF q 29 E').take (n * 29)) 29 n) (some (tD 78 0)))).take (N * 1)) 1 N, y3)) else none) := by kernel_rfl
theorem zAk (D2 : List AV) : ziQ b6 ((f8 (s7 X Lr p N D E i0 p1 q n j p2 o) ((77, some E') :: bx0 y3) []).ap (.box 77 (some D2))) zr9 = (if N * 1 <= D2.length then some (r12 (zp (D2.take (N * 1)) 1 N, y3)) else none) := by kernel_rfl
end
end
section
open Go.RowKit
set_option maxRecDepth 4000
set_option maxHeartbeats 4000000
theorem zzb {B : Base} {s : AS} {a : Act} {w : World} {r : Ret} (h : ziQ b6 s zr9 = some r) (hS : Sim B s a w) (Q : Exit -> Act -> World -> Prop) (hQ : ∀ e s a' w', (e = .normal \/ e = .ret) -> zrQ TB Tryz.f12 S12 s = some r -> Sim B s a' w' -> Q e a' w') : b6.wp Tryz.prog Q a w :=
 Jz (zc Tryz.prog) (jn _) zf zrR (lam 600 []) b6 0 (λ p hp hact => by have := List.mem_filter.2 ⟨hp, hact⟩; rw [show (zK b6 0).filter (zfx zrR) = [] from by kernel_rfl] at this; cases this) Ret s zr9 r B a w Q h hS λ e1 s1 a' w' hk hS' => by
  cases e1 with
  | ret => exact hQ _ s1 a' w' (.inr rfl) hk hS'
  | _ => cases hk
theorem zDt {B : Base} {s s8 : AS} {a : Act} {w : World} (h : ziQ (sqL b5) s kfe = some (.normal, s8)) (hS : Sim B s a w) (Q : Exit -> Act -> World -> Prop) (hQ : ∀ a' w', Sim B s8 a' w' -> Q .normal a' w') : (sqL b5).wp Tryz.prog Q a w :=
 Jz (zc Tryz.prog) (jn _) zf zrR (lam 600 []) (sqL b5) 0 (λ p hp hact => by have := List.mem_filter.2 ⟨hp, hact⟩; rw [show (zK (sqL b5) 0).filter (zfx zrR) = [] from by kernel_rfl] at this; cases this) (Exit × AS) s kfe (.normal, s8) B a w Q h hS λ e1 s1 a' w' hk hS' => by
  have hk' := Option.some.inj hk
  injection hk' with h1 h2
  subst h1 h2
  exact hQ a' w' (zCL hS')
theorem dat7 (v : RT7) : (zo v).map dat0 = zo v := rfl
theorem zej {α : Type} (A : List α) : ∀ (vs B : List α) (k : Nat), splice (A ++ B) (A.length + k) vs = A ++ splice B k vs
 | [], B, k => rfl
 | v :: r, B, k => by
  show splice ((A ++ B).set (A.length + k) v) (A.length + k + 1) r = _
  rw [List.set_append_right _ _ (by omega), Nat.add_sub_cancel_left]
  exact zej A r (B.set k v) (k + 1)
section
variable {C : qC} {i0 j : Nat} (hi : i0 < C.length) (hj : j < (C[i0]).length)
abbrev rw7 (C : qC) : List (List (List AV)) := C.map λ x => x.map zo
theorem zvp {q c : Nat} {vs : List AV} {b : RT7} (hb : splice (zo (C[i0][j])) c vs = zo b) (hc : c + vs.length <= 29) : ZF q 29 (splice (EE ((C[i0]).map zo) q) ((q + j) * 29 + c) vs) = fl zo ((C[i0]).set j b) := by
 rw [zeX]
 have e1 : (List.replicate (q * 29) AV.any).length = q * 29 := by simp
 have e2 : (q + j) * 29 + c = (List.replicate (q * 29) AV.any).length + (j * 29 + c) := by rw [e1, Nat.add_mul]; omega
 unfold EE
 rw [e2, zej, List.drop_left' e1]
 exact zgd zo 29 Jw (C[i0]) j c hj vs b hb hc
theorem zjg (q n : Nat) (v : AV) : (DD (rw7 C) i0 q n).set i0 v = ((C.map λ x => AV.list 29 (x.map zo) none).set i0 v) := by
 unfold DD rw7
 rw [List.set_set, List.map_map]
 rfl
include hi in
theorem zni (q n : Nat) (x : List RT7) (t : Option Nat) : zp (((DD (rw7 C) i0 q n).set i0 (.list 29 (x.map zo) t)).take (C.length * 1)) 1 C.length = zj (C.set i0 x) := by
 have _ := hi
 rw [zjg, Nat.mul_one, List.take_of_length_le (by simp)]
 have := zaQ (C.set i0 x) ((C.map λ x => AV.list 29 (x.map zo) none).set i0 (.list 29 (x.map zo) t)) (by
  rw [List.map_set]
  show _ = jw (C.set i0 x)
  unfold jw
  rw [List.map_set]
  congr 1
  ·rw [List.map_map]; rfl
  ·cases t <;> rfl)
 rw [List.length_set] at this
 exact this
end
theorem zAp {C : qC} {i0 j : Nat} (hC : C.length <= 500) (hm : ∀ x ∈ C, x.length <= 1000) (hi : i0 < C.length) (hj : j < (C[i0]).length) {Lr : List (List AV)} {p p1 p2 : Int}
  (h1 : Za 600 ((C.length : Int), Lr, p) = some ((i0 : Int), Lr, p1)) (h2 : Za 600 (((C[i0]).length : Int), Lr, p1) = some ((j : Int), Lr, p2)) {r : Ret} (ru : r.use = [] /\ r.sl = [])
  (hE : ∀ (B : Base) (q : Nat) (a : Act) (w : World) (Q : Exit -> Act -> World -> Prop), Sim B (s7 (zL (rw7 C)) Lr p C.length (DD (rw7 C) i0 q (C[i0]).length) (EE ((C[i0]).map zo) q) i0 p1 q (C[i0]).length j p2 ((q + j) * 29)) a w -> (∀ e s a' w', (e = .normal \/ e = .ret) -> zrQ TB Tryz.f12 S12 s = some r -> Sim B s a' w' -> Q e a' w') -> b5.wp Tryz.prog Q a w) :
  CallOk Tryz.prog 12 [AV.ptr 0 0, AV.agg [AV.list 1 (zj C) none]] [[AV.list 1 Lr none, AV.v (.int .i64 p)]] r := by
 have hrc : zj C = zL (rw7 C) := znh C
 rw [hrc]
 refine zdY (T := TB) (zc Tryz.prog) (fn := Tryz.f12) (S := S12) (c := zuj) Tryz.func12 rfl (by kernel_rfl) ru (show 2 <= 92 by omega) (λ t ht => by cases ht) λ B a w Q hS hQ => ?_
 have hXl : (rw7 C).length = C.length := by simp
 have hx : (rw7 C)[i0]'(by omega) = (C[i0]).map zo := by simp
 have hxl : ((rw7 C)[i0]'(by omega)).length = (C[i0]).length := by rw [hx]; simp
 show (Code.seq (sqL zuj) b1).wp Tryz.prog Q a w
 refine wp_seq (zvq _ (by kernel_rfl) (zCZ (zL (rw7 C)) Lr p) hS _ λ a1 w1 hS1 => ?_)
 show (Code.seq (sqL b1) b2).wp Tryz.prog Q a1 w1
 refine wp_seq (zC0 (XX := rw7 C) (by omega) (λ x hx => ?_) (λ x hx r hr => ?_) (i0 := i0) (by omega) (λ e => ?_) hS1 _ λ q a2 w2 hS2 => ?_)
 ·obtain ⟨y, hy, rfl⟩ := List.mem_map.1 hx
  rw [List.length_map]
  exact hm y hy
 ·obtain ⟨y, hy, rfl⟩ := List.mem_map.1 hx
  obtain ⟨v, hv, rfl⟩ := List.mem_map.1 hr
  exact Jw v
 ·rw [e] at hxl
  simp at hxl
  omega
 replace hS2 : Sim B (st4 (zL (rw7 C)) Lr p C.length (DD (rw7 C) i0 q (C[i0]).length) (EE ((C[i0]).map zo) q)) a2 w2 := by
  simp only [hXl, hx, List.length_map] at hS2
  exact hS2
 show (Code.seq (sqL b2) b3).wp Tryz.prog Q a2 w2
 refine wp_seq (zC3 (by omega) hS2 _ λ a3 w3 hS3 => ?_)
 show (Code.seq (sqL b3) b4).wp Tryz.prog Q a3 w3
 refine wp_seq (zC5 hi h1 hS3 _ λ a4 w4 hS4 => ?_)
 rw [zAh] at hS4
 show (Code.seq (sqL b4) b5).wp Tryz.prog Q a4 w4
 have hD : (DD (rw7 C) i0 q (C[i0]).length)[i0]? = some (.vs 78 q (C[i0]).length 29) := by
  unfold DD
  rw [List.getElem?_set_self (by simp; exact hi)]
 refine wp_seq (zC6 hD h2 hj hS4 _ λ a5 w5 hS5 => ?_)
 rw [zC8] at hS5
 exact hE B q a5 w5 Q hS5 hQ
theorem jt {C : qC} {i0 j : Nat} (hC : C.length <= 500) (hm : ∀ x ∈ C, x.length <= 1000) (hi : i0 < C.length) (hj : j < (C[i0]).length) {Lr : List (List AV)} {p p1 p2 : Int}
  (h1 : Za 600 ((C.length : Int), Lr, p) = some ((i0 : Int), Lr, p1)) (h2 : Za 600 (((C[i0]).length : Int), Lr, p1) = some ((j : Int), Lr, p2)) {b : RT7} {c : Nat} {vs : List AV} (hb : splice (zo (C[i0][j])) c vs = zo b) (hc : c + vs.length <= 29)
  {R : List (Nat × Option (List AV))} {tk : List (Nat × Bool)} {yl : List (List AV) × Int}
  (h6 : ∀ q, (q + j) * 29 + c + vs.length <= (EE ((C[i0]).map zo) q).length -> ziQ (sqL b5) (s7 (zL (rw7 C)) Lr p C.length (DD (rw7 C) i0 q (C[i0]).length) (EE ((C[i0]).map zo) q) i0 p1 q (C[i0]).length j p2 ((q + j) * 29)) kfe = some (.normal, f8 (s7 (zL (rw7 C)) Lr p C.length (DD (rw7 C) i0 q (C[i0]).length) (EE ((C[i0]).map zo) q) i0 p1 q (C[i0]).length j p2 ((q + j) * 29)) ((78, some (splice (EE ((C[i0]).map zo) q) ((q + j) * 29 + c) vs)) :: R) tk))
  (hL : ∀ (s : AS) (D E' : List AV), s.bx 77 = some D -> (f8 s ((78, some E') :: R) tk).bx 77 = some D /\ (s.tk (tD 78 0) = none -> (f8 s ((78, some E') :: R) tk).tk (tD 78 0) = none) /\ (s.tk (vk 78) = some false -> (f8 s ((78, some E') :: R) tk).tk (vk 78) = some false))
  (hT : ∀ (X : List (List AV)) (N : Nat) (D E : List AV) (q n o : Nat) (E' : List AV), ziQ b6 (s9 (f8 (s7 X Lr p N D E i0 p1 q n j p2 o) ((78, some E') :: R) tk) D E' i0 q n) zr9 = (if N * 1 <= (D.set i0 (.list 29 (zp ((ZF q 29 E').take (n * 29)) 29 n) (some (tD 78 0)))).length then some (r12 (zp ((D.set i0 (.list 29 (zp ((ZF q 29 E').take (n * 29)) 29 n) (some (tD 78 0)))).take (N * 1)) 1 N, yl)) else none)) :
  CallOk Tryz.prog 12 [AV.ptr 0 0, AV.agg [AV.list 1 (zj C) none]] [[AV.list 1 Lr none, AV.v (.int .i64 p)]] (r12 (zj (C.set i0 ((C[i0]).set j b)), yl)) := by
 refine zAp hC hm hi hj h1 h2 ⟨rfl, rfl⟩ λ B q a5 w5 Q hS5 hQ => ?_
 have hEl : ∀ q, (EE ((C[i0]).map zo) q).length = q * 29 + (C[i0]).length * 29 := λ q => by
  unfold EE
  rw [List.length_append, List.length_replicate]
  have := JN zo 29 Jw (C[i0])
  unfold fl at this
  rw [this]
 have hlt : (j + 1) * 29 <= (C[i0]).length * 29 := Nat.mul_le_mul_right _ hj
 have hD : (DD (rw7 C) i0 q (C[i0]).length)[i0]? = some (.vs 78 q (C[i0]).length 29) := by
  unfold DD
  rw [List.getElem?_set_self (by simp; exact hi)]
 show (Code.seq (sqL b5) b6).wp Tryz.prog Q a5 w5
 refine wp_seq (zDt (h6 q (by rw [hEl, Nat.add_mul]; omega)) hS5 _ λ a6 w6 hS6 => ?_)
 show b6.wp Tryz.prog Q a6 w6
 obtain ⟨l1, l2, l3⟩ := hL (s7 (zL (rw7 C)) Lr p C.length (DD (rw7 C) i0 q (C[i0]).length) (EE ((C[i0]).map zo) q) i0 p1 q (C[i0]).length j p2 ((q + j) * 29)) (DD (rw7 C) i0 q (C[i0]).length) (splice (EE ((C[i0]).map zo) q) ((q + j) * 29 + c) vs) rfl
 have hrow := zvp hi hj (q := q) hb hc
 have hS7 := fz78 (i0 := i0) (q := q) (n := (C[i0]).length) l1 hD rfl (l2 rfl) (l3 rfl) (show 1 <= 78 by omega) (by rw [hrow, JN zo 29 Jw, List.length_set]; exact Nat.le_refl _) hS6
 have ht := hT (zL (rw7 C)) C.length (DD (rw7 C) i0 q (C[i0]).length) (EE ((C[i0]).map zo) q) q (C[i0]).length ((q + j) * 29) (splice (EE ((C[i0]).map zo) q) ((q + j) * 29 + c) vs)
 have hch : zp ((ZF q 29 (splice (EE ((C[i0]).map zo) q) ((q + j) * 29 + c) vs)).take ((C[i0]).length * 29)) 29 (C[i0]).length = ((C[i0]).set j b).map zo := by
  rw [hrow]
  exact Jh zo 29 Jw dat7 ((C[i0]).set j b) _ (by simp)
 rw [hch, zni hi] at ht
 rw [if_pos (by rw [List.length_set]; unfold DD; simp)] at ht
 exact zzb ht hS7 Q hQ
theorem zpl {C : qC} {i0 j : Nat} (hC : C.length <= 500) (hm : ∀ x ∈ C, x.length <= 1000) (hi : i0 < C.length) (hj : j < (C[i0]).length) {Lr : List (List AV)} {p p1 p2 : Int}
  (h1 : Za 600 ((C.length : Int), Lr, p) = some ((i0 : Int), Lr, p1)) (h2 : Za 600 (((C[i0]).length : Int), Lr, p1) = some ((j : Int), Lr, p2)) {y3 : Int × List (List AV) × Int} (h3 : Za 600 (7, Lr, p2) = some y3) (hy : y3.1 = 5) :
  CallOk Tryz.prog 12 [AV.ptr 0 0, AV.agg [AV.list 1 (zj C) none]] [[AV.list 1 Lr none, AV.v (.int .i64 p)]] (r12 (zj (C.set i0 []), y3.2)) := by
 refine zAp hC hm hi hj h1 h2 ⟨rfl, rfl⟩ λ B q a5 w5 Q hS5 hQ => ?_
 have hDl : (DD (rw7 C) i0 q (C[i0]).length).length = C.length := by unfold DD; simp
 have e6 := zzU (zL (rw7 C)) Lr p C.length (DD (rw7 C) i0 q (C[i0]).length) (EE ((C[i0]).map zo) q) i0 p1 q (C[i0]).length j p2 ((q + j) * 29)
 have z0 : ((5 : Int) == 0) = false := by decide
 have z1 : ((5 : Int) == 1) = false := by decide
 have z2 : ((5 : Int) == 2) = false := by decide
 have z3 : ((5 : Int) == 3) = false := by decide
 have z4 : ((5 : Int) == 4) = false := by decide
 have z5 : ((5 : Int) == 5) = true := by decide
 have b1 : (i0 + 0) + 1 <= (DD (rw7 C) i0 q (C[i0]).length).length := by rw [hDl]; exact hi
 simp only [h3, hy, z0, z1, z2, z3, z4, z5, b1, if_true, Nat.add_zero] at e6
 show (Code.seq (sqL b5) b6).wp Tryz.prog Q a5 w5
 refine wp_seq (zDt e6 hS5 _ λ a6 w6 hS6 => ?_)
 show b6.wp Tryz.prog Q a6 w6
 obtain ⟨D2, hD2⟩ : ∃ D2, D2 = (DD (rw7 C) i0 q (C[i0]).length).set i0 (.list 29 (([] : List RT7).map zo) none) := ⟨_, rfl⟩
 have hD3 := hD2
 rw [zjg] at hD2
 have hS7 : Sim B ((f8 (s7 (zL (rw7 C)) Lr p C.length (DD (rw7 C) i0 q (C[i0]).length) (EE ((C[i0]).map zo) q) i0 p1 q (C[i0]).length j p2 ((q + j) * 29)) ((77, some (splice (DD (rw7 C) i0 q (C[i0]).length) i0 [AV.v (.slice none 0 0)])) :: bx0 y3.2) []).ap (.box 77 (some D2))) a6 w6 := by
  obtain ⟨M, ρ, σ, h⟩ := hS6
  refine ⟨M, ρ, σ, h.rebox (b := 77) (cs0 := splice (DD (rw7 C) i0 q (C[i0]).length) i0 [AV.v (.slice none 0 0)]) rfl D2 ?_⟩
  rcases h.box 77 (splice (DD (rw7 C) i0 q (C[i0]).length) i0 [AV.v (.slice none 0 0)]) rfl with ⟨e, -⟩ | ⟨g, g1, g2, -, -⟩
  ·have := congrArg List.length e
   rw [zB, hDl] at this
   have : C.length = 0 := this
   omega
  ·obtain ⟨ccs, t, c1, c2, c3, c4⟩ := g2.cells rfl
   rw [zB, hDl] at c2
   refine .inr ⟨g, g1, .inl ⟨ccs, t, c1, by rw [hD2]; simpa using c2, λ i hi _ => c1.one i hi, λ k hk hk' => ?_⟩⟩
   have hkC : k < C.length := by rw [hD2] at hk'; simpa using hk'
   have hr := c4 k hk (by rw [zB, hDl]; exact hkC)
   have es : splice (DD (rw7 C) i0 q (C[i0]).length) i0 [AV.v (.slice none 0 0)] = (C.map λ x => AV.list 29 (x.map zo) none).set i0 (AV.v (.slice none 0 0)) := by
    show (DD (rw7 C) i0 q (C[i0]).length).set i0 _ = _
    unfold DD rw7
    rw [List.set_set, List.map_map]
    rfl
   simp only [es] at hr
   by_cases hk0 : k = i0
   ·subst hk0
    have e1 : D2[k] = .list 29 [] none := by simp only [hD2]; rw [List.getElem_set_self]; rfl
    rw [List.getElem_set_self] at hr
    rw [e1, hr.v_inv]
    exact .nil
   ·have e1 : D2[k] = AV.list 29 (C[k].map zo) none := by
     simp only [hD2]
     rw [List.getElem_set_ne (by omega), List.getElem_map]
    rw [List.getElem_set_ne (by omega), List.getElem_map] at hr
    rw [e1]
    exact hr
 have ht := zAk (zL (rw7 C)) Lr p C.length (DD (rw7 C) i0 q (C[i0]).length) (EE ((C[i0]).map zo) q) i0 p1 q (C[i0]).length j p2 ((q + j) * 29) (splice (DD (rw7 C) i0 q (C[i0]).length) i0 [AV.v (.slice none 0 0)]) y3.2 D2
 have hch : zp (D2.take (C.length * 1)) 1 C.length = zj (C.set i0 []) := by
  rw [hD3]
  exact zni hi q _ [] none
 rw [hch, if_pos (by rw [hD2]; simp)] at ht
 exact zzb ht hS7 Q hQ
theorem zna (Lr : List (List AV)) (p : Int) : CallOk Tryz.prog 12 [AV.ptr 0 0, AV.agg [AV.list 1 (zj []) none]] [[AV.list 1 Lr none, AV.v (.int .i64 p)]] (r12 (zj [], Lr, p)) :=
 ziv (T := TB) (Γ := gam (P := Tryz.prog) [zBj 600]) (zc Tryz.prog) (jn _) zf Tryz.func12 rfl (anL []) (lam 600 []) (λ c hc p hp hact => by
  have ec : c = zuj := Option.some.inj (hc.symm.trans (show Tryz.f12.body = some zuj by kernel_rfl))
  subst ec
  have := List.mem_filter.2 ⟨hp, hact⟩
  rw [show (zK zuj 0).filter (zfx (anL [])) = [] from by kernel_rfl] at this
  cases this) (S := S12) ⟨rfl, rfl⟩ (by kernel_rfl)
end
section
open Go.RowKit
set_option maxHeartbeats 1000000
structure WfV (v : RT7) : Prop where
 pk : jj (evV v)
 sz : (byV v).size <= 9223372036854775807
structure Wf (C : qC) : Prop where
 le : C.length <= 500
 xs : ∀ x ∈ C, x.length <= 100
 vs : ∀ x ∈ C, ∀ v ∈ x, WfV v
theorem Wf.set {C : qC} (h : Wf C) {i : Nat} {x : List RT7} (h1 : x.length <= 100) (h2 : ∀ v ∈ x, WfV v) : Wf (C.set i x) := by
 refine ⟨by rw [List.length_set]; exact h.le, λ y hy => ?_, λ y hy => ?_⟩
 ·rcases List.mem_or_eq_of_mem_set hy with hy | rfl
  ·exact h.xs y hy
  ·exact h1
 ·rcases List.mem_or_eq_of_mem_set hy with hy | rfl
  ·exact h.vs y hy
  ·exact h2
def SubC (D C : qC) : Prop := D.length = C.length /\ ∀ m, (∀ x ∈ C, x.length <= m) -> ∀ x ∈ D, x.length <= m
theorem SubC.set {C : qC} {i : Nat} (hi : i < C.length) {x : List RT7} (h : x.length <= C[i].length) : SubC (C.set i x) C :=
 ⟨by simp, λ m hm y hy => (List.mem_or_eq_of_mem_set hy).elim (hm y) λ e => by rw [e]; exact Nat.le_trans h (hm _ (List.getElem_mem _))⟩
theorem Wf.setV {C : qC} (h : Wf C) {i j : Nat} (hi : i < C.length) {b : RT7} (hb : WfV b) : Wf (C.set i ((C[i]).set j b)) /\ SubC (C.set i ((C[i]).set j b)) C :=
 ⟨h.set (by rw [List.length_set]; exact h.xs _ (List.getElem_mem _)) λ v hv => by
  rcases List.mem_or_eq_of_mem_set hv with hv | rfl
  ·exact h.vs _ (List.getElem_mem _) v hv
  ·exact hb, SubC.set hi (by simp)⟩
theorem zv5 (x : List RT7) (q j c : Nat) (hj : j < x.length) (hc : c < 29) : (EE (x.map zo) q)[(q + j) * 29 + c]? = (zo x[j])[c]? := by
 have e1 : (List.replicate (q * 29) AV.any).length = q * 29 := by simp
 have e2 : (q + j) * 29 + c - (List.replicate (q * 29) AV.any).length = j * 29 + c := by rw [e1, Nat.add_mul]; omega
 unfold EE
 rw [List.getElem?_append_right (by rw [e1, Nat.add_mul]; omega), e2]
 exact znu zo 29 Jw x j c hj hc
theorem zC9 {xs : List Int} {p : Int} (D : Sc xs p) : ∃ b p', zat 600 (opT, zg xs, p) = some (b, zg xs, p') /\ b.size <= 100 /\ Sc xs p' := by
 obtain ⟨v, p1, h1, m1, D1⟩ := zar 600 (n := 4) (by omega) D
 replace h1 : Za 600 ((opT.length : Int), zg xs, p) = some (v, zg xs, p1) := h1
 have h0 : 0 <= v := m1.1
 rcases (show v = 0 \/ v = 1 \/ v = 2 \/ v = 3 by omega) with rfl | rfl | rfl | rfl
 ·refine ⟨⟨#[]⟩, p1, ?_, by decide, D1⟩
  simp only [zat, FSpec.d, zfG, h1]
  rfl
 ·refine ⟨⟨#[97, 110, 110]⟩, p1, ?_, by decide, D1⟩
  simp only [zat, FSpec.d, zfG, h1]
  rfl
 ·refine ⟨⟨#[65, 110, 110]⟩, p1, ?_, by decide, D1⟩
  simp only [zat, FSpec.d, zfG, h1]
  rfl
 ·refine ⟨⟨#[97, 98, 99, 100, 101, 102, 103, 104, 105, 106, 107, 108, 109, 110, 111, 112, 113]⟩, p1, ?_, by decide, D1⟩
  simp only [zat, FSpec.d, zfG, h1]
  rfl
@[reducible] def zAy : RT0 := (AB, st 0, LC, CH, 1000, 0, 0, 0, 0, [zh (AB, st 0, LC, CH, 1000, 0, 0, 0, 0, ())], 0, 0, 0, 0, 0, 0, 0, 0, 0, 0, 0, 0, 0, 0, 0, ())
theorem zzB : zoJ 600 () = some zAy := by kernel_rfl
theorem one_g : EvG zAy := ⟨by kernel_rfl, by kernel_rfl, ⟨[(AB, st 0, LC, CH, 1000, 0, 0, 0, 0, ())], by simp, rfl⟩⟩
def zAO (C : qC) (xs : List Int) (p : Int) : Prop := ∃ (C' : qC) (p' : Int), (Wf C' /\ SubC C' C) /\ Sc xs p' /\ CallOk Tryz.prog 12 [AV.ptr 0 0, AV.agg [AV.list 1 (zj C) none]] [[AV.list 1 (zg xs) none, AV.v (.int .i64 p)]] (r12 (zj C', zg xs, p'))
theorem zul {C : qC} (hW : Wf C) (hne : ∀ x ∈ C, x ≠ []) {xs : List Int} {p : Int} (D : Sc xs p) : zAO C xs p := by
 by_cases hC : C = []
 ·subst hC
  exact ⟨[], p, ⟨hW, rfl, λ m h => h⟩, D, zna (zg xs) p⟩
 have hCl := List.length_pos_iff.2 hC
 have hle := hW.le
 have hm : ∀ x ∈ C, x.length <= 1000 := λ x hx => Nat.le_trans (hW.xs x hx) (by omega)
 obtain ⟨v, p1, h1, m1, D1⟩ := zar 600 (n := (C.length : Int)) (by omega) D
 obtain ⟨i0, rfl⟩ : ∃ i : Nat, v = (i : Int) := ⟨v.toNat, by omega⟩
 have hi : i0 < C.length := by omega
 have hx1 := List.length_pos_iff.2 (hne C[i0] (List.getElem_mem _))
 have hx2 := hW.xs C[i0] (List.getElem_mem _)
 obtain ⟨v, p2, h2, m2, D2⟩ := zar 600 (n := ((C[i0]).length : Int)) (by omega) D1
 obtain ⟨j, rfl⟩ : ∃ j : Nat, v = (j : Int) := ⟨v.toNat, by omega⟩
 have hj : j < (C[i0]).length := by omega
 obtain ⟨z, p3, h3, m3, D3⟩ := zar 600 (n := 7) (by omega) D2
 have hv : WfV (C[i0][j]) := hW.vs _ (List.getElem_mem _) _ (List.getElem_mem _)
 have ev := λ q => zzU (zL (rw7 C)) (zg xs) p C.length (DD (rw7 C) i0 q (C[i0]).length) (EE ((C[i0]).map zo) q) i0 p1 q (C[i0]).length j p2 ((q + j) * 29)
 obtain ⟨V, hV⟩ : ∃ V, C[i0][j] = V := ⟨_, rfl⟩
 rw [hV] at hv
 rcases (show z = 0 \/ z = 1 \/ z = 2 \/ z = 3 \/ z = 4 \/ z = 5 \/ z = 6 by omega) with rfl | rfl | rfl | rfl | rfl | rfl | rfl
 ·obtain ⟨u, p4, h4, m4, D4⟩ := zar 600 (n := 9) (by omega) D3
  refine ⟨_, p4, hW.setV hi (b := (i64 (u - 1), V.2)) ⟨hv.pk, hv.sz⟩, D4, jt hW.le hm hi hj h1 h2 (c := 0) (vs := [AV.v (.int .i64 (i64 (u - 1)))]) (by rw [hV]; kernel_rfl) (by simp) (R := bx0 (zg xs, p4) ++ bx0 (zg xs, p3)) (tk := []) (λ q hq => ?_) (λ s D E h => ⟨h, id, id⟩) (λ X N D E q n o E' => zsk X (zg xs) p N D E i0 p1 q n j p2 o E' (zg xs, p3) (zg xs, p4))⟩
  have e6 := ev q
  rw [h3] at e6
  have z0 : ((0 : Int) == 0) = true := by decide
  simp only [z0, h4] at e6
  exact e6.trans (if_pos hq)
 ·obtain ⟨u, p4, h4, m4, D4⟩ := zn4 600 [-1, 0, 18014398509481984, 18014398509481985] (by simp) D3
  replace h4 : zjy 600 (opA, zg xs, p3) = some (u, zg xs, p4) := h4
  refine ⟨_, p4, hW.setV hi (b := (V.1, u, V.2.2)) ⟨hv.pk, hv.sz⟩, D4, jt hW.le hm hi hj h1 h2 (c := 1) (vs := [AV.v (.int .i64 u)]) (by rw [hV]; kernel_rfl) (by simp) (R := bx0 (zg xs, p4) ++ bx0 (zg xs, p3)) (tk := [(3840, true)]) (λ q hq => ?_) (λ s D E h => ⟨h, id, id⟩) (λ X N D E q n o E' => zAi X (zg xs) p N D E i0 p1 q n j p2 o E' (zg xs, p3) (zg xs, p4))⟩
  have e6 := ev q
  rw [h3] at e6
  have z0 : ((1 : Int) == 0) = false := by decide
  have z1 : ((1 : Int) == 1) = true := by decide
  simp only [z0, z1, h4] at e6
  exact e6.trans (if_pos hq)
 ·obtain ⟨u, p4, h4, m4, D4⟩ := zC9 D3
  refine ⟨_, p4, hW.setV hi (b := (V.1, V.2.1, u, V.2.2.2)) ⟨hv.pk, by simp only [byV]; omega⟩, D4, jt hW.le hm hi hj h1 h2 (c := 2) (vs := [AV.v (.string u)]) (by rw [hV]; kernel_rfl) (by simp) (R := bx0 (zg xs, p4) ++ bx0 (zg xs, p3)) (tk := [(4352, true)]) (λ q hq => ?_) (λ s D E h => ⟨h, id, id⟩) (λ X N D E q n o E' => zAj X (zg xs) p N D E i0 p1 q n j p2 o E' (zg xs, p3) (zg xs, p4))⟩
  have e6 := ev q
  rw [h3] at e6
  have z0 : ((2 : Int) == 0) = false := by decide
  have z1 : ((2 : Int) == 1) = false := by decide
  have z2 : ((2 : Int) == 2) = true := by decide
  simp only [z0, z1, z2, h4] at e6
  exact e6.trans (if_pos hq)
 ·obtain ⟨u, p4, h4, m4, D4⟩ := zar 600 (n := 5) (by omega) D3
  refine ⟨_, p4, hW.setV hi (b := (V.1, V.2.1, V.2.2.1, i64 (u - 1), V.2.2.2.2)) ⟨hv.pk, hv.sz⟩, D4, jt hW.le hm hi hj h1 h2 (c := 3) (vs := [AV.v (.int .i64 (i64 (u - 1)))]) (by rw [hV]; kernel_rfl) (by simp) (R := bx0 (zg xs, p4) ++ bx0 (zg xs, p3)) (tk := []) (λ q hq => ?_) (λ s D E h => ⟨h, id, id⟩) (λ X N D E q n o E' => zsk X (zg xs) p N D E i0 p1 q n j p2 o E' (zg xs, p3) (zg xs, p4))⟩
  have e6 := ev q
  rw [h3] at e6
  have z0 : ((3 : Int) == 0) = false := by decide
  have z1 : ((3 : Int) == 1) = false := by decide
  have z2 : ((3 : Int) == 2) = false := by decide
  have z3 : ((3 : Int) == 3) = true := by decide
  simp only [z0, z1, z2, z3, h4] at e6
  exact e6.trans (if_pos hq)
 ·refine ⟨_, p3, hW.setV hi (b := (V.1, V.2.1, V.2.2.1, V.2.2.2.1, zAy)) ⟨one_g.pk, hv.sz⟩, D3, jt hW.le hm hi hj h1 h2 (c := 4) (vs := zl zAy) (by rw [hV]; kernel_rfl) (by rw [zaa]; omega) (R := bx0 (zg xs, p3)) (tk := []) (λ q hq => ?_) (λ s D E h => ⟨h, id, id⟩) (λ X N D E q n o E' => zsl X (zg xs) p N D E i0 p1 q n j p2 o E' (zg xs, p3))⟩
  have e6 := ev q
  rw [h3] at e6
  have z0 : ((4 : Int) == 0) = false := by decide
  have z1 : ((4 : Int) == 1) = false := by decide
  have z2 : ((4 : Int) == 2) = false := by decide
  have z3 : ((4 : Int) == 3) = false := by decide
  have z4 : ((4 : Int) == 4) = true := by decide
  simp only [z0, z1, z2, z3, z4, zzB] at e6
  exact e6.trans (if_pos hq)
 ·exact ⟨_, p3, ⟨hW.set (by simp) (λ v hv => by cases hv), SubC.set hi (Nat.zero_le _)⟩, D3, zpl hW.le hm hi hj h1 h2 h3 rfl⟩
 ·have hg : ∀ q, (EE ((C[i0]).map zo) q)[(((q + j) * 29 + 4) + 0) + 4]? = some (AV.v (.int .i64 V.2.2.2.2.2.2.2.2.1)) := λ q => by
   have := zv5 C[i0] q j 8 hj (by omega)
   rw [hV] at this
   exact this
  refine ⟨_, p3, hW.setV hi (b := (V.1, V.2.1, V.2.2.1, V.2.2.2.1, V.2.2.2.2.1, V.2.2.2.2.2.1, V.2.2.2.2.2.2.1, V.2.2.2.2.2.2.2.1, i64 (V.2.2.2.2.2.2.2.2.1 + 1), V.2.2.2.2.2.2.2.2.2)) ⟨hv.pk, hv.sz⟩, D3, jt hW.le hm hi hj h1 h2 (c := 8) (vs := [AV.v (.int .i64 (i64 (V.2.2.2.2.2.2.2.2.1 + 1)))]) (by rw [hV]; kernel_rfl) (by simp) (R := bx0 (zg xs, p3)) (tk := []) (λ q hq => ?_) (λ s D E h => ⟨h, id, id⟩) (λ X N D E q n o E' => zsl X (zg xs) p N D E i0 p1 q n j p2 o E' (zg xs, p3))⟩
  have e6 := ev q
  rw [h3] at e6
  have z0 : ((6 : Int) == 0) = false := by decide
  have z1 : ((6 : Int) == 1) = false := by decide
  have z2 : ((6 : Int) == 2) = false := by decide
  have z3 : ((6 : Int) == 3) = false := by decide
  have z4 : ((6 : Int) == 4) = false := by decide
  have z5 : ((6 : Int) == 5) = false := by decide
  simp only [z0, z1, z2, z3, z4, z5, hg] at e6
  exact e6.trans ((if_pos trivial).trans (if_pos hq))
theorem zod {a b : List Int} (h : zg a = zg b) : a = b := by
 induction a generalizing b with
 | nil => cases b with | nil => rfl | cons y b => cases h
 | cons x a ih =>
  cases b with
  | nil => cases h
  | cons y b =>
   have h' : [I x] :: zg a = [I y] :: zg b := h
   injection h' with h1 h2
   have h3 : I x = I y := by injection h1
   have h4 : x = y := by
    unfold I at h3
    injection h3 with h3
    injection h3
   rw [h4, ih h2]
end
section
open Go.RowKit
def BX (x y : (List (List AV)) × (List (List AV)) × Int) : Prop := ∃ (xs : List Int) (C' : qC) (p' : Int), x.2.1 = zg xs /\ y = (zj C', zg xs, p') /\ (Wf C' /\ ∀ C, x.1 = zj C -> SubC C' C) /\ Sc xs p' /\ CallOk Tryz.prog 12 [AV.ptr 0 0, AV.agg [AV.list 1 x.1 none]] [[AV.list 1 x.2.1 none, AV.v (.int .i64 x.2.2)]] (r12 y)
open Classical in
noncomputable def zjx (N : Nat) : FSpec where
 X := (List (List AV)) × (List (List AV)) × Int
 Y := (List (List AV)) × (List (List AV)) × Int
 ash := [[none], [some 1]]
 bsh := [[some 1, none]]
 S := ⟨[[some 1]], [[some 1, none]], [], [], []⟩
 bm := false
 pat := λ a b => zfk a λ v1 c2 => zzH 0 0 v1 <| zfk c2 λ v3 c4 => zu2 v3 λ c5 => zfk c5 λ c6 c7 => zvQ 1 c6 λ a0 => zsc c7 <| zsc c4 <| zfk b λ v8 c9 => zfk v8 λ c10 c11 => zvQ 1 c10 λ a1 => zfk c11 λ c12 c13 => zzF .i64 c12 λ a2 => zsc c13 <| zsc c9 <| some (a0, a1, a2)
 args := λ x => [(AV.ptr 0 0), (AV.agg [(AV.list 1 x.1 none)])]
 bs := λ x => [[(AV.list 1 x.2.1 none), (AV.v (.int .i64 x.2.2))]]
 ret := λ y => ⟨(AV.agg [(AV.list 1 y.1 none)]), [[(AV.list 1 y.2.1 none), (AV.v (.int .i64 y.2.2))]], none, [], [], [], none⟩
 t := λ x α k => if h : ∃ y, BX x y then k h.choose else none
noncomputable abbrev zwx (N : Nat) (x : (List (List AV)) × (List (List AV)) × Int) : Option ((List (List AV)) × (List (List AV)) × Int) := (zjx N).d x
theorem zsI (N : Nat) (a : List AV) (b : List (List AV)) (x : (zjx N).X) (h : (zjx N).pat a b = some x) : a = (zjx N).args x /\ b = (zjx N).bs x := by
 obtain ⟨v1, c2, rfl, g0⟩ := JC (show zfk _ _ = some x from h)
 obtain ⟨rfl, g1⟩ := znZ g0; clear g0
 obtain ⟨v3, c4, rfl, g2⟩ := JC g1; clear g1
 obtain ⟨c5, rfl, g3⟩ := zpZ g2; clear g2
 obtain ⟨c6, c7, rfl, g4⟩ := JC g3; clear g3
 obtain ⟨a0, rfl, g5⟩ := zhC g4; clear g4
 obtain ⟨rfl, g6⟩ := zaW g5; clear g5
 obtain ⟨rfl, g7⟩ := zaW g6; clear g6
 obtain ⟨v8, c9, rfl, g8⟩ := JC g7; clear g7
 obtain ⟨c10, c11, rfl, g9⟩ := JC g8; clear g8
 obtain ⟨a1, rfl, g10⟩ := zhC g9; clear g9
 obtain ⟨c12, c13, rfl, g11⟩ := JC g10; clear g10
 obtain ⟨a2, rfl, g12⟩ := znY g11; clear g11
 obtain ⟨rfl, g13⟩ := zaW g12; clear g12
 obtain ⟨rfl, g14⟩ := zaW g13; clear g13
 clear h
 cases g14
 exact ⟨rfl, rfl⟩
noncomputable def zAR (N : Nat) : Ent Tryz.prog where
 f := 12
 F := zjx N
 ok := λ (x : (List (List AV)) × (List (List AV)) × Int) y h => by
  classical
  have h : (if h : ∃ y, BX x y then some h.choose else none) = some y := h
  split at h
  ·rename_i hx
   cases h
   obtain ⟨xs, C', p', -, -, -, -, e⟩ := hx.choose_spec
   exact e
  ·cases h
 hp := zsI N
 hsl := λ y => rfl
theorem zpm {C : qC} (hW : Wf C) (hne : ∀ x ∈ C, x ≠ []) {xs : List Int} {p : Int} (D : Sc xs p) : ∃ (C' : qC) (p' : Int), zwx 600 (zj C, zg xs, p) = some (zj C', zg xs, p') /\ Wf C' /\ Sc xs p' /\ SubC C' C := by
 classical
 have hx : ∃ y, BX (zj C, zg xs, p) y := by
  obtain ⟨C', p', h1, h2, h3⟩ := zul hW hne D
  exact ⟨_, xs, C', p', rfl, rfl, ⟨h1.1, λ C0 e => ziB e ▸ h1.2⟩, h2, h3⟩
 obtain ⟨ys, C', p', e1, e2, e3, e4, -⟩ := hx.choose_spec
 have e5 := zod e1
 subst e5
 refine ⟨C', p', ?_, e3.1, e4, e3.2 C rfl⟩
 show (if h : ∃ y, BX (zj C, zg xs, p) y then some h.choose else none) = _
 rw [dif_pos hx, e2]
end
section
noncomputable section
open Go.RowKit
set_option maxRecDepth 4000
set_option maxHeartbeats 4000000
def zdc : Nat -> Keep × Keep := anL [(10, ⟨[2, 9, 10, 11, 48, 49], [], [10, 34], [(1, 25), (47, 1)], [], [], [], [], false, none, []⟩, qK [8] [] []), (23, ⟨[2, 9, 10, 11, 13, 48, 49, 74, 75], [], [10, 13, 34], [(1, 25), (47, 1), (73, 1)], [], [], [], [], false, none, []⟩, ⟨[2, 8, 9, 10, 11, 48, 49], [], [10, 34], [(1, 25), (47, 1)], [], [], [], [], false, none, []⟩), (36, ⟨[2, 9, 10, 11, 13, 15, 48, 49, 74, 75, 101, 102], [], [10, 13, 34], [(1, 25), (47, 1), (73, 1), (100, 1)], [], [], [], [], false, none, []⟩, ⟨[2, 8, 9, 10, 11, 13, 48, 49, 74, 75], [], [10, 13, 34], [(1, 25), (47, 1), (73, 1)], [], [], [], [], false, none, []⟩)]
def zAq (N : Nat) : List (Ent qP) := [F6_e N, F8_e N, zA8 N, F9_e N, zfF N, zAP N, zAR N, zlq N, zlx N, zA9 N, zA5 N, zwY N, zBb N, zA7 N, zBc N, zBd N, zw6 N, zwV N, zwU N, zxc N, zoT N, zxe N, zBf N]
def zdO (N : Nat) : LSpec where
 X := qL × qL × qL × qL × Int × Int × Int × Int × Int × Int × Int × Int × Int × qL × qL × qL × Int
 Y := (qL × qL × qL × Int × Bool × Int × Int × Int × Int × Int × qL × qL × qL × Int) ⊕ (qL × qL × qL × Int × Int × Int × Int × Int × Int × qL × qL × qL × Int)
 dt := .mk 157 0 (zdc 36).1.toks [(1, .lst 25), (47, .lst 1), (73, .lst 1), (100, .lst 1), (2, .int .i64), (9, .ptr 34 0), (10, .ptr 10 0), (11, .int .i64), (13, .ptr 13 0), (15, .int .i64), (48, .int .i64), (49, .int .i64), (74, .int .i64), (75, .int .i64), (101, .int .i64), (102, .int .i64)] [(10, .cells [.lst 1]), (13, .cells [.lst 1]), (34, .cells [.lst 1, .int .i64])] rfl
 od := .mk 157 0 (zdc 36).2.toks [⟨.ret, [(1, .lst 25), (47, .lst 1), (73, .lst 1), (2, .int .i64), (8, .bool), (9, .ptr 34 0), (10, .ptr 10 0), (11, .int .i64), (13, .ptr 13 0), (48, .int .i64), (49, .int .i64), (74, .int .i64), (75, .int .i64)], [(10, .cells [.lst 1]), (13, .cells [.lst 1]), (34, .cells [.lst 1, .int .i64])], none⟩, ⟨.exit 4, [(1, .lst 25), (47, .lst 1), (73, .lst 1), (2, .int .i64), (9, .ptr 34 0), (10, .ptr 10 0), (11, .int .i64), (13, .ptr 13 0), (48, .int .i64), (49, .int .i64), (74, .int .i64), (75, .int .i64)], [(10, .cells [.lst 1]), (13, .cells [.lst 1]), (34, .cells [.lst 1, .int .i64])], none⟩] rfl
 b := λ u36 α kn ke => (match (decide (u36.2.2.2.2.2.2.2.2.2.2.2.2.1 < u36.2.2.2.2.2.2.2.2.2.2.2.1)) with | true => (if 0 <= u36.2.2.2.2.2.2.2.2.2.2.2.2.1 then (match u36.2.2.2.1[u36.2.2.2.2.2.2.2.2.2.2.2.2.1.toNat]? with | some c39 => (match c39[0]? with | some x40 => (match Zf 25 x40 with | some l41 => (match zav N (u36.2.2.2.2.2.2.2.2.2.2.2.2.2.2.1, l41, u36.2.2.2.2.2.2.1) with | some y42 => (match zbW N (u36.2.2.2.2.2.2.2.2.2.2.2.2.2.2.1, l41, u36.2.2.2.2.2.2.1) with | some y43 => (match (y42.2.2 != y43.2.2) with | true => (ke (.inl (u36.1, u36.2.1, u36.2.2.1, u36.2.2.2.2.1, false, u36.2.2.2.2.2.1, u36.2.2.2.2.2.2.2.1, u36.2.2.2.2.2.2.2.2.1, u36.2.2.2.2.2.2.2.2.2.1, u36.2.2.2.2.2.2.2.2.2.2.1, u36.2.2.2.2.2.2.2.2.2.2.2.2.2))) | false => (match zoI N (y42.1, y43.1) with | some y44 => (match (!y44) with | true => (ke (.inl (u36.1, u36.2.1, u36.2.2.1, u36.2.2.2.2.1, false, u36.2.2.2.2.2.1, u36.2.2.2.2.2.2.2.1, u36.2.2.2.2.2.2.2.2.1, u36.2.2.2.2.2.2.2.2.2.1, u36.2.2.2.2.2.2.2.2.2.2.1, u36.2.2.2.2.2.2.2.2.2.2.2.2.2))) | false => (match zgQ N (y42.2.1, y43.2.1) with | some y45 => (match (!y45) with | true => (ke (.inl (u36.1, u36.2.1, u36.2.2.1, u36.2.2.2.2.1, false, u36.2.2.2.2.2.1, u36.2.2.2.2.2.2.2.1, u36.2.2.2.2.2.2.2.2.1, u36.2.2.2.2.2.2.2.2.2.1, u36.2.2.2.2.2.2.2.2.2.2.1, u36.2.2.2.2.2.2.2.2.2.2.2.2.2))) | false => (match zfK N u36.2.2.2.2.2.2.2.2.2.2.2.2.2.2.1 with | some y46 => (match y46 with | true => (match zaF N l41 with | some y47 => (match y47 with | true => (match zlM N (u36.2.2.2.2.2.2.2.2.2.2.2.2.2.2.1, l41) with | some y48 => (match zs1 N (u36.2.2.2.2.2.2.2.2.2.2.2.2.2.2.1, l41) with | some y49 => (match zgQ N (y48, y49) with | some y50 => (match (!y50) with | true => (ke (.inl (u36.1, u36.2.1, u36.2.2.1, u36.2.2.2.2.1, false, u36.2.2.2.2.2.1, u36.2.2.2.2.2.2.2.1, u36.2.2.2.2.2.2.2.2.1, u36.2.2.2.2.2.2.2.2.2.1, u36.2.2.2.2.2.2.2.2.2.2.1, u36.2.2.2.2.2.2.2.2.2.2.2.2.2))) | false => (kn (u36.1, u36.2.1, u36.2.2.1, u36.2.2.2.1, u36.2.2.2.2.1, u36.2.2.2.2.2.1, u36.2.2.2.2.2.2.1, u36.2.2.2.2.2.2.2.1, u36.2.2.2.2.2.2.2.2.1, u36.2.2.2.2.2.2.2.2.2.1, u36.2.2.2.2.2.2.2.2.2.2.1, u36.2.2.2.2.2.2.2.2.2.2.2.1, (i64 (u36.2.2.2.2.2.2.2.2.2.2.2.2.1 + 1)), u36.2.2.2.2.2.2.2.2.2.2.2.2.2))) | none => none) | none => none) | none => none) | false => (kn (u36.1, u36.2.1, u36.2.2.1, u36.2.2.2.1, u36.2.2.2.2.1, u36.2.2.2.2.2.1, u36.2.2.2.2.2.2.1, u36.2.2.2.2.2.2.2.1, u36.2.2.2.2.2.2.2.2.1, u36.2.2.2.2.2.2.2.2.2.1, u36.2.2.2.2.2.2.2.2.2.2.1, u36.2.2.2.2.2.2.2.2.2.2.2.1, (i64 (u36.2.2.2.2.2.2.2.2.2.2.2.2.1 + 1)), u36.2.2.2.2.2.2.2.2.2.2.2.2.2))) | none => none) | false => (kn (u36.1, u36.2.1, u36.2.2.1, u36.2.2.2.1, u36.2.2.2.2.1, u36.2.2.2.2.2.1, u36.2.2.2.2.2.2.1, u36.2.2.2.2.2.2.2.1, u36.2.2.2.2.2.2.2.2.1, u36.2.2.2.2.2.2.2.2.2.1, u36.2.2.2.2.2.2.2.2.2.2.1, u36.2.2.2.2.2.2.2.2.2.2.2.1, (i64 (u36.2.2.2.2.2.2.2.2.2.2.2.2.1 + 1)), u36.2.2.2.2.2.2.2.2.2.2.2.2.2))) | none => none)) | none => none)) | none => none)) | none => none) | none => none) | none => none) | none => none) | none => none) else none) | false => (ke (.inr (u36.1, u36.2.1, u36.2.2.1, u36.2.2.2.2.1, u36.2.2.2.2.2.1, u36.2.2.2.2.2.2.2.1, u36.2.2.2.2.2.2.2.2.1, u36.2.2.2.2.2.2.2.2.2.1, u36.2.2.2.2.2.2.2.2.2.2.1, u36.2.2.2.2.2.2.2.2.2.2.2.2.2))))
abbrev zme (N : Nat) (x : qL × qL × qL × qL × Int × Int × Int × Int × Int × Int × Int × Int × Int × qL × qL × qL × Int) : Option ((qL × qL × qL × Int × Bool × Int × Int × Int × Int × Int × qL × qL × qL × Int) ⊕ (qL × qL × qL × Int × Int × Int × Int × Int × Int × qL × qL × qL × Int)) := (zdO N).L N x
def zdN (N : Nat) : LSpec where
 X := qL × qL × qL × Int × Int × Int × Int × Int × Int × qL × qL × qL × Int
 Y := (qL × qL × Int × Bool × Int × Int × Int × qL × qL × Int) ⊕ (qL × qL × Int × Int × Int × Int × qL × qL × Int)
 dt := .mk 157 0 (zdc 23).1.toks [(1, .lst 25), (47, .lst 1), (73, .lst 1), (2, .int .i64), (9, .ptr 34 0), (10, .ptr 10 0), (11, .int .i64), (13, .ptr 13 0), (48, .int .i64), (49, .int .i64), (74, .int .i64), (75, .int .i64)] [(10, .cells [.lst 1]), (13, .cells [.lst 1]), (34, .cells [.lst 1, .int .i64])] rfl
 od := .mk 157 0 (zdc 23).2.toks [⟨.ret, [(1, .lst 25), (47, .lst 1), (2, .int .i64), (8, .bool), (9, .ptr 34 0), (10, .ptr 10 0), (11, .int .i64), (48, .int .i64), (49, .int .i64)], [(10, .cells [.lst 1]), (34, .cells [.lst 1, .int .i64])], none⟩, ⟨.exit 2, [(1, .lst 25), (47, .lst 1), (2, .int .i64), (9, .ptr 34 0), (10, .ptr 10 0), (11, .int .i64), (48, .int .i64), (49, .int .i64)], [(10, .cells [.lst 1]), (34, .cells [.lst 1, .int .i64])], none⟩] rfl
 b := λ u23 α kn ke => (match (decide (u23.2.2.2.2.2.2.2.2.1 < u23.2.2.2.2.2.2.2.1)) with | true => (if 0 <= u23.2.2.2.2.2.2.2.2.1 then (match u23.2.2.1[u23.2.2.2.2.2.2.2.2.1.toNat]? with | some c54 => (match c54[0]? with | some x55 => (match x55 with | .v (.int q57 n56) => (if q57 = .i64 then (match zew N (u23.2.2.2.2.2.2.2.2.2.2.1, n56) with | some y58 => (match zjF N (u23.2.2.2.2.2.2.2.2.2.2.1, n56) with | some y59 => (match zsR N (y58, y59) with | some y60 => (match (!y60) with | true => (ke (.inl (u23.1, u23.2.1, u23.2.2.2.1, false, u23.2.2.2.2.1, u23.2.2.2.2.2.1, u23.2.2.2.2.2.2.1, u23.2.2.2.2.2.2.2.2.2.1, u23.2.2.2.2.2.2.2.2.2.2.2))) | false => (match zoO N (u23.2.2.2.2.2.2.2.2.2.2.1, n56) with | some y61 => (match zoQ N (u23.2.2.2.2.2.2.2.2.2.2.1, n56) with | some y62 => (match zgQ N (y61, y62) with | some y63 => (match (!y63) with | true => (ke (.inl (u23.1, u23.2.1, u23.2.2.2.1, false, u23.2.2.2.2.1, u23.2.2.2.2.2.1, u23.2.2.2.2.2.2.1, u23.2.2.2.2.2.2.2.2.2.1, u23.2.2.2.2.2.2.2.2.2.2.2))) | false => (match zfH N (4, u23.2.2.2.2.2.2.2.2.2.2.2) with | some y64 => (match zme N (u23.1, u23.2.1, u23.2.2.1, [[(AV.list 25 u23.1 none)], [(AV.list 25 y64.1 none)]], u23.2.2.2.1, u23.2.2.2.2.1, n56, u23.2.2.2.2.2.1, u23.2.2.2.2.2.2.1, u23.2.2.2.2.2.2.2.1, u23.2.2.2.2.2.2.2.2.1, ([[(AV.list 25 u23.1 none)], [(AV.list 25 y64.1 none)]].length : Int), 0, u23.2.2.2.2.2.2.2.2.2.1, u23.2.2.2.2.2.2.2.2.2.2.1, y64.2) with | some y65 => (match y65 with | .inl z66 => (ke (.inl (z66.1, z66.2.1, z66.2.2.2.1, z66.2.2.2.2.1, z66.2.2.2.2.2.1, z66.2.2.2.2.2.2.1, z66.2.2.2.2.2.2.2.1, z66.2.2.2.2.2.2.2.2.2.2.1, z66.2.2.2.2.2.2.2.2.2.2.2.2))) | .inr z67 => (kn (z67.1, z67.2.1, z67.2.2.1, z67.2.2.2.1, z67.2.2.2.2.1, z67.2.2.2.2.2.1, z67.2.2.2.2.2.2.1, z67.2.2.2.2.2.2.2.1, (i64 (z67.2.2.2.2.2.2.2.2.1 + 1)), z67.2.2.2.2.2.2.2.2.2))) | none => none) | none => none)) | none => none) | none => none) | none => none)) | none => none) | none => none) | none => none) else none) | _ => none) | none => none) | none => none) else none) | false => (ke (.inr (u23.1, u23.2.1, u23.2.2.2.1, u23.2.2.2.2.1, u23.2.2.2.2.2.1, u23.2.2.2.2.2.2.1, u23.2.2.2.2.2.2.2.2.2.1, u23.2.2.2.2.2.2.2.2.2.2.2))))
abbrev zmd (N : Nat) (x : qL × qL × qL × Int × Int × Int × Int × Int × Int × qL × qL × qL × Int) : Option ((qL × qL × Int × Bool × Int × Int × Int × qL × qL × Int) ⊕ (qL × qL × Int × Int × Int × Int × qL × qL × Int)) := (zdN N).L N x
def zdM (N : Nat) : LSpec where
 X := qL × qL × Int × Int × Int × Int × qL × qL × Int
 Y := (Bool) ⊕ (Unit)
 dt := .mk 157 0 (zdc 10).1.toks [(1, .lst 25), (47, .lst 1), (2, .int .i64), (9, .ptr 34 0), (10, .ptr 10 0), (11, .int .i64), (48, .int .i64), (49, .int .i64)] [(10, .cells [.lst 1]), (34, .cells [.lst 1, .int .i64])] rfl
 od := .mk 157 0 (zdc 10).2.toks [⟨.ret, [(8, .bool)], [], none⟩, ⟨.exit 0, [], [], none⟩] rfl
 b := λ u10 α kn ke => (match (decide (u10.2.2.2.2.2.1 < u10.2.2.2.2.1)) with | true => (if 0 <= u10.2.2.2.2.2.1 then (match u10.2.1[u10.2.2.2.2.2.1.toNat]? with | some c9 => (match zyP c9 with | some e10 => (match zgP N e10.1 with | some y11 => (match zfK N e10.1 with | some y12 => (match (!(y11 == y12)) with | true => (ke (.inl false)) | false => (match zsU N (e10.1, u10.2.2.2.2.2.2.1) with | some y13 => (match zoI N (e10.1, u10.2.2.2.2.2.2.1) with | some y14 => (match (!(y13 == y14)) with | true => (ke (.inl false)) | false => (match Za N (60, u10.2.2.2.2.2.2.2) with | some y15 => (match zmd N (u10.1, u10.2.1, [[(AV.v (.int .i64 u10.2.2.1))], [(AV.v (.int .i64 u10.2.2.2.1))], [(AV.v (.int .i64 (i64 (u10.2.2.2.1 - y15.1))))], [(AV.v (.int .i64 (-1)))]], u10.2.2.1, u10.2.2.2.1, u10.2.2.2.2.1, u10.2.2.2.2.2.1, ([[(AV.v (.int .i64 u10.2.2.1))], [(AV.v (.int .i64 u10.2.2.2.1))], [(AV.v (.int .i64 (i64 (u10.2.2.2.1 - y15.1))))], [(AV.v (.int .i64 (-1)))]].length : Int), 0, u10.2.2.2.2.2.2.1, e10.1, y15.2) with | some y68 => (match y68 with | .inl z69 => (ke (.inl z69.2.2.2.1)) | .inr z70 => (kn (z70.1, z70.2.1, z70.2.2.1, z70.2.2.2.1, z70.2.2.2.2.1, (i64 (z70.2.2.2.2.2.1 + 1)), z70.2.2.2.2.2.2))) | none => none) | none => none)) | none => none) | none => none)) | none => none) | none => none) | none => none) | none => none) else none) | false => (ke (.inr ())))
abbrev zmc (N : Nat) (x : qL × qL × Int × Int × Int × Int × qL × qL × Int) : Option ((Bool) ⊕ (Unit)) := (zdM N).L N x
def zBB (N : Nat) : FSpec where
 X := qL × qL × Int × qL
 Y := Bool
 ad := .mk [.ags [.sl 1], .lst 25, .int .i64, .lst 1] [] rfl
 ret := λ y => qR (AV.v (.bool y))
 t := λ x α k => (match zDg N x.1 with | some y1 => (match (!y1) with | true => (match zAr N () with | some y2 => (k y2) | none => none) | false => (match zw0 N x.2.1 with | some y3 => (match (!y3) with | true => (match zAr N () with | some y4 => (k y4) | none => none) | false => (match zCm N x.2.2.2 with | some y5 => (match Za N (8, y5) with | some y6 => (match zsA N y6 with | some y7 => (match zwx N (y7.1, y7.2.2) with | some y8 => (match zmc N (x.2.1, [[(AV.list 1 x.1 none)], [(AV.list 1 y7.1 none)], [(AV.list 1 y8.1 none)]], x.2.2.1, y7.2.1, ([[(AV.list 1 x.1 none)], [(AV.list 1 y7.1 none)], [(AV.list 1 y8.1 none)]].length : Int), 0, y7.1, y8.2) with | some y71 => (match y71 with | .inl z72 => (k z72) | .inr z73 => (match zAr N () with | some y74 => (k y74) | none => none)) | none => none) | none => none) | none => none) | none => none) | none => none)) | none => none)) | none => none)
abbrev zDf (N : Nat) (x : qL × qL × Int × qL) : Option (Bool) := (zBB N).d x
def zo3 (N : Nat) : List (Nat × LSpec) := [(10, zdM N), (23, zdN N), (36, zdO N)]
def zo2 : Code := Tryz.f5.body.getD .skip
theorem zb7 (N : Nat) : zP qP zdc N (zo3 N) 36 (zb 36 zo2) :=
 zy (zc qP) zf (zAq N) (l := []) an (zdO N)
theorem zfP (N : Nat) : zP qP zdc N (zo3 N) 23 (zb 23 zo2) :=
 zy (zc qP) zf (zAq N) (l := [(36, zb 36 zo2)]) (al (zb7 N) an) (zdN N)
theorem zmf (N : Nat) : zP qP zdc N (zo3 N) 10 (zb 10 zo2) :=
 zy (zc qP) zf (zAq N) (l := [(23, zb 23 zo2), (36, zb 36 zo2)]) (al (zfP N) (al (zb7 N) an)) (zdM N)
def F5_e (N : Nat) : Ent qP := zG (zc qP) zf (zAq N) 5 Tryz.f5 Tryz.func5 zdc N (zo3 N) (l := [(10, zb 10 zo2), (23, zb 23 zo2), (36, zb 36 zo2)]) (al (zmf N) (al (zfP N) (al (zb7 N) an))) (zBB N)
end
end
section
abbrev mxT : Int := 18014398509481984
theorem zi8 (b : ByteArray) : (b.toList == nob.toList) = true ↔ b = nob := by
 rw [<- beq_toListBytes, ziz]
theorem zCX {b : ByteArray} (h : b.size <= 9223372036854775807) : zmQ 600 b = some (zdl b) := if_pos h
theorem zzL {b : ByteArray} (h : b.size <= 9223372036854775807) : zjW 600 b = some (zdl b) := if_pos h
open Classical in
theorem zvs {v : RT7} (hv : WfV v) (n i : Nat) : ztl 600 (v, (i : Int), (n : Int)) = some (decide (VG mxT n i v)) := by
 obtain ⟨k, t, b, to, e⟩ := v
 have hs : zmQ 600 b = some (zdl b) := zCX hv.sz
 have no : ∀ {P : Prop}, ¬ P -> some false = some (decide P) := λ h => by rw [decide_eq_false h]
 have yes : ∀ {P : Prop}, P -> some true = some (decide P) := λ h => by rw [decide_eq_true h]
 simp only [ztl, FSpec.d, ztm]
 by_cases k1 : k < 1
 ·simp only [k1, decide_true]
  exact no λ h => by have := h.kd.lt; simp only [kdV] at this; omega
 by_cases k2 : k > 6
 ·simp only [k1, k2, decide_true, decide_false]
  exact no λ h => by have := h.kd.lt; simp only [kdV] at this; omega
 by_cases t1 : t < 0
 ·simp only [k1, k2, t1, decide_true, decide_false]
  exact no λ h => by have := h.at0; simp only [atV] at this; omega
 by_cases t2 : t > 18014398509481984
 ·simp only [k1, k2, t1, t2, decide_true, decide_false]
  exact no λ h => by have : t <= 18014398509481984 := h.atT; omega
 simp only [k1, k2, t1, t2, decide_false]
 rcases ze2 hv.pk with ⟨hg, -, he⟩ | ⟨hg, -, he⟩
 case inr =>
  replace he : zfR 600 (zm (k, t, b, to, e)) = some false := he
  simp only [he, Bool.not_false]
  exact no λ h => hg h.ev
 replace he : zfR 600 (zm (k, t, b, to, e)) = some true := he
 have hk : Kd6 k := by unfold Kd6; omega
 have q7 : 0 <= k /\ k < 7 := by omega
 have tc := zqx hk
 simp only [he, Bool.not_true, q7, and_self, if_true, tc]
 have fin : ∀ (P : Prop), (VG mxT n i (k, t, b, to, e) ↔ P /\ (k ≠ 5 -> to = 0) /\ (k = 5 -> 0 <= to /\ to < n /\ to ≠ i)) -> P -> (match (k == 5) with | true => (match decide (to >= 0) with | true => (match decide (to < (n : Int)) with | true => some (to != (i : Int)) | false => some false) | false => some false) | false => some (to == 0)) = some (decide (VG mxT n i (k, t, b, to, e))) := λ P hP h => by
  by_cases k5 : k = 5
  ·have z : (k == 5) = true := by simp [k5]
   simp only [z]
   by_cases o1 : to >= 0
   ·by_cases o2 : to < (n : Int)
    ·simp only [o1, o2, decide_true]
     by_cases o3 : to = (i : Int)
     ·have : (to != (i : Int)) = false := by simp [o3]
      rw [this]
      exact no λ h => ((hP.1 h).2.2 k5).2.2 o3
     ·have : (to != (i : Int)) = true := by simp [o3]
      rw [this]
      exact yes (hP.2 ⟨h, λ h => absurd k5 h, λ _ => ⟨o1, o2, o3⟩⟩)
    ·simp only [o1, o2, decide_true, decide_false]
     exact no λ h => o2 ((hP.1 h).2.2 k5).2.1
   ·simp only [o1, decide_false]
    exact no λ h => o1 ((hP.1 h).2.2 k5).1
  ·have z : (k == 5) = false := by simp [k5]
   simp only [z]
   by_cases o1 : to = 0
   ·have : (to == 0) = true := by simp [o1]
    rw [this]
    exact yes (hP.2 ⟨h, λ _ => o1, λ h => absurd h k5⟩)
   ·have : (to == 0) = false := by simp [o1]
    rw [this]
    exact no λ h => o1 ((hP.1 h).2.1 k5)
 have base : ∀ (P : Prop), ((k = 1 \/ k = 2) -> b = nob) -> (¬ (k = 1 \/ k = 2) -> Per b) -> (VG mxT n i (k, t, b, to, e) ↔ True /\ (k ≠ 5 -> to = 0) /\ (k = 5 -> 0 <= to /\ to < n /\ to ≠ i)) := λ P p1 p2 => ⟨λ h => ⟨trivial, h.in1, h.in2⟩, λ h => ⟨hk, Int.not_lt.1 t1, Int.not_lt.1 t2, p1, p2, h.2.1, h.2.2, hg⟩⟩
 cases hc : (k == 1 || k == 2) with
 | true =>
  have hc' : k = 1 \/ k = 2 := by simpa using hc
  cases hb : b.toList == nob.toList with
  | false =>
   have hb' : (b.toList == (⟨#[]⟩ : ByteArray).toList) = false := hb
   simp only [hb', Bool.not_false]
   exact no λ h => by have := (zi8 b).2 (h.by1 hc'); rw [hb] at this; cases this
  | true =>
   have hb' : (b.toList == (⟨#[]⟩ : ByteArray).toList) = true := hb
   simp only [hb', Bool.not_true]
   exact fin True (base True (λ _ => (zi8 b).1 hb) (λ h => absurd hc' h)) trivial
 | false =>
  have hc' : ¬ (k = 1 \/ k = 2) := by simpa using hc
  simp only [Bool.not_false, hs]
  cases hp : zdl b with
  | false =>
   simp only [Bool.not_false]
   exact no λ h => by have := h.by2 hc'; unfold Per at this; simp only [byV] at this; rw [hp] at this; cases this
  | true =>
   simp only [Bool.not_true]
   exact fin True (base True (λ h => absurd h hc') (λ _ => hp)) trivial
def VP (n i : Nat) (x : List RT7) (k : Nat) : Prop := ∃ h : k < x.length, VG mxT n i x[k] /\ (k = 0 -> kdV x[k] = 1) /\ ∀ j (h' : j < x.length), k = j + 1 -> Stp x[j] x[k]
theorem zm1 (n i : Nat) (x : List RT7) : XG mxT n i 100 x ↔ (x ≠ [] /\ x.length <= 100 /\ ∀ k, k < x.length -> VP n i x k) := by
 constructor
 ·intro h
  exact ⟨h.ne, h.le, λ k hk => ⟨hk, h.vs k hk, λ e => by subst e; exact h.hd hk, λ j hj e => by subst e; exact h.st j hk⟩⟩
 ·rintro ⟨h1, h2, h3⟩
  refine ⟨h1, λ h => ?_, λ k hk => ?_, λ k hk => ?_, h2⟩
  ·obtain ⟨_, _, h5, _⟩ := h3 0 h
   exact h5 rfl
  ·obtain ⟨_, h4, _⟩ := h3 k hk
   exact h4
  ·obtain ⟨_, _, _, h6⟩ := h3 (k + 1) hk
   exact h6 k (by omega) rfl
theorem zpp {v : RT7} (hv : WfV v) (n i : Nat) (hk : Kd6 (kdV v)) (k : Int) (X : List (List AV)) : (((kdV v = 1 \/ kdV v = 2) -> byV v = nob) /\ (¬ (kdV v = 1 \/ kdV v = 2) -> Per (byV v)) /\ zeA 600 ((i : Int), (n : Int), k, X, v) = some (.inr ((i : Int), (n : Int), k, X, v))) \/ (¬ (((kdV v = 1 \/ kdV v = 2) -> byV v = nob) /\ (¬ (kdV v = 1 \/ kdV v = 2) -> Per (byV v))) /\ zeA 600 ((i : Int), (n : Int), k, X, v) = some (.inl ((i : Int), (n : Int), false, k, X, v))) := by
 obtain ⟨k1, a1, b1, i1, e1⟩ := v
 have hs : zjW 600 b1 = some (zdl b1) := zzL hv.sz
 have hu : ∀ y, (Z1 600).b ((i : Int), (n : Int), k, X, (k1, a1, b1, i1, e1)) _ ((Z1 600).L 599) some = y -> zeA 600 ((i : Int), (n : Int), k, X, (k1, a1, b1, i1, e1)) = y := λ y h => h
 simp only [kdV, byV] at hk |-
 by_cases hc : k1 = 1 \/ k1 = 2
 ·cases hb : b1.toList == nob.toList with
  | true =>
   refine .inl ⟨λ _ => (zi8 b1).1 hb, λ h => absurd hc h, hu _ ?_⟩
   have hb' : (b1.toList == (⟨#[]⟩ : ByteArray).toList) = true := hb
   rcases hc with rfl | rfl
   ·have z : ((1 : Int) == 1) = true := by decide
    simp only [Z1]
    simp only [z, hb', Bool.not_true]
   ·have z : ((2 : Int) == 1) = false := by decide
    have z2 : ((2 : Int) == 2) = true := by decide
    simp only [Z1]
    simp only [z, z2, hb', Bool.not_true]
  | false =>
   refine .inr ⟨λ h => (by have := (zi8 b1).2 (h.1 hc); rw [hb] at this; cases this), hu _ ?_⟩
   have hb' : (b1.toList == (⟨#[]⟩ : ByteArray).toList) = false := hb
   rcases hc with rfl | rfl
   ·have z : ((1 : Int) == 1) = true := by decide
    simp only [Z1]
    simp only [z, hb', Bool.not_false]
   ·have z : ((2 : Int) == 1) = false := by decide
    have z2 : ((2 : Int) == 2) = true := by decide
    simp only [Z1]
    simp only [z, z2, hb', Bool.not_false]
 ·have z : (k1 == 1) = false := by simp; omega
  have z2 : (k1 == 2) = false := by simp; omega
  cases hp : zdl b1 with
  | true =>
   refine .inl ⟨λ h => absurd h hc, λ _ => hp, hu _ ?_⟩
   simp only [Z1]
   simp only [z, z2, Bool.not_false, hs, hp, Bool.not_true]
  | false =>
   refine .inr ⟨λ h => (by have := h.2 hc; unfold Per at this; rw [hp] at this; cases this), hu _ ?_⟩
   simp only [Z1]
   simp only [z, z2, Bool.not_false, hs, hp]
noncomputable def vrT (V : RT7) (X : List (List AV)) (i n k : Int) (Lf : (Int × Int × Int × List (List AV)) -> Option ((Bool × (List (List AV))) ⊕ ((List (List AV))))) : Option ((Bool × (List (List AV))) ⊕ ((List (List AV)))) :=
 (match (k == 0) with
   | true => (match (V.1 != 1) with | true => some (.inl (false, X)) | false => Lf (i, n, i64 (k + 1), X))
   | false => (if 0 <= (i64 (k - 1)) then (match X[(i64 (k - 1)).toNat]? with
    | some c54 => (match zfw c54 with
     | some e55 => (match (decide (V.2.1 < e55.2.1)) with
      | true => some (.inl (false, X))
      | false => (match zg9 600 (V, e55) with
       | some y56 => (match (!y56) with
        | true => some (.inl (false, X))
        | false => (match zfS 600 V.1 with
         | some y57 => (match y57 with
          | true => (match zb3 600 ((zm e55), (zm V)) with
           | some y58 => (match (!y58) with
            | true => some (.inl (false, X))
            | false => Lf (i, n, i64 (k + 1), X))
           | none => none)
          | false => Lf (i, n, i64 (k + 1), X))
         | none => none))
       | none => none))
     | none => none)
    | none => none) else none))
theorem zAo {x : List RT7} (hW : ∀ v ∈ x, WfV v) (hx : x.length <= 100) (i n : Int) {k : Nat} (hk : k < x.length) (Lf : (Int × Int × Int × List (List AV)) -> Option ((Bool × (List (List AV))) ⊕ ((List (List AV))))) :
  (((k = 0 -> kdV x[k] = 1) /\ ∀ j (h' : j < x.length), k = j + 1 -> Stp x[j] x[k]) /\ vrT x[k] (x.map zo) i n (k : Int) Lf = Lf (i, n, ((k + 1 : Nat) : Int), x.map zo)) \/ (¬ ((k = 0 -> kdV x[k] = 1) /\ ∀ j (h' : j < x.length), k = j + 1 -> Stp x[j] x[k]) /\ vrT x[k] (x.map zo) i n (k : Int) Lf = some (.inl (false, x.map zo))) := by
 have n1 := zbJ (k := k) (by omega)
 unfold vrT
 cases k with
 | zero =>
  have d6 : (((0 : Nat) : Int) == 0) = true := by decide
  by_cases h1 : x[0].1 = 1
  ·have d7 : (x[0].1 != 1) = false := by simp [h1]
   simp only [d6, d7, n1]
   exact .inl ⟨⟨λ _ => h1, λ j _ e => by omega⟩, trivial⟩
  ·have d7 : (x[0].1 != 1) = true := by simp [h1]
   simp only [d6, d7]
   exact .inr ⟨λ h => h1 (h.1 trivial), trivial⟩
 | succ k' =>
  have d6 : (((k' + 1 : Nat) : Int) == 0) = false := by simp; omega
  have d7 : i64 (((k' + 1 : Nat) : Int) - 1) = (k' : Int) := by rw [zW (by omega)]; omega
  have h0' : 0 <= (k' : Int) := by omega
  have d9 := zCN 600 x[k' + 1] x[k']
  have d10 := zr8 600 x[k' + 1].1
  have bad : ¬ Stp x[k'] x[k' + 1] -> ¬ ((k' + 1 = 0 -> kdV x[k' + 1] = 1) /\ ∀ j (h' : j < x.length), k' + 1 = j + 1 -> Stp x[j] x[k' + 1]) := λ h g => h (g.2 k' (by omega) rfl)
  have good : Stp x[k'] x[k' + 1] -> ((k' + 1 = 0 -> kdV x[k' + 1] = 1) /\ ∀ j (h' : j < x.length), k' + 1 = j + 1 -> Stp x[j] x[k' + 1]) := λ h => ⟨λ e => by omega, λ j hj e => by
   obtain rfl : k' = j := by omega
   exact h⟩
  simp only [d6, d7, h0', if_true, Int.toNat_natCast, zbi x k' (by omega), rd7]
  by_cases t1 : x[k' + 1].2.1 < x[k'].2.1
  ·simp only [t1, decide_true]
   exact .inr ⟨bad λ h => (by have := h.1; simp only [atV] at this; omega), trivial⟩
  simp only [t1, decide_false, d9]
  cases hf : zvN (kdV x[k' + 1]) (kdV x[k']) with
  | false =>
   simp only [Bool.not_false]
   exact .inr ⟨bad λ h => (by have := h.2.1; rw [hf] at this; cases this), trivial⟩
  | true =>
   simp only [Bool.not_true, d10]
   cases hkp : zcR x[k' + 1].1 with
   | false =>
    simp only [n1]
    exact .inl ⟨good ⟨by simp only [atV]; omega, hf, λ h => by rw [show zcR (kdV x[k' + 1]) = zcR x[k' + 1].1 from rfl, hkp] at h; cases h⟩, trivial⟩
   | true =>
    obtain ⟨b, q1, q2⟩ := zhH (evV x[k']) (evV x[k' + 1]) (hW _ (List.getElem_mem _)).pk (hW _ (List.getElem_mem _)).pk
    replace q1 : zb3 600 (zm x[k'], zm x[k' + 1]) = some b := q1
    simp only [q1]
    cases b with
    | false =>
     simp only [Bool.not_false]
     exact .inr ⟨bad λ h => (by have := q2.2 (h.2.2 hkp); cases this), trivial⟩
    | true =>
     simp only [Bool.not_true, n1]
     exact .inl ⟨good ⟨by simp only [atV]; omega, hf, λ _ => q2.1 rfl⟩, trivial⟩
theorem zvI {x : List RT7} (hW : ∀ v ∈ x, WfV v) (hx : x.length <= 100) (n i : Nat) {k : Nat} (hk : k < x.length) (f : Nat) : (VP n i x k /\ (zV 600).L (f + 1) ((i : Int), (n : Int), (k : Int), x.map zo) = (zV 600).L f ((i : Int), (n : Int), ((k + 1 : Nat) : Int), x.map zo)) \/ (¬ VP n i x k /\ (zV 600).L (f + 1) ((i : Int), (n : Int), (k : Int), x.map zo) = some (.inl (false, x.map zo))) := by
 have hv := hW x[k] (List.getElem_mem _)
 obtain ⟨Lf, hLf⟩ : ∃ Lf, Lf = (zV 600).L f := ⟨_, rfl⟩
 have hu : ∀ y, (zV 600).b ((i : Int), (n : Int), (k : Int), x.map zo) _ Lf some = y -> (zV 600).L (f + 1) ((i : Int), (n : Int), (k : Int), x.map zo) = y := λ y h => by rw [hLf] at h; exact h
 rw [<- hLf]
 have e2 := ltT k x.length (by omega)
 have h0 := nnI k
 have n1 := zbJ (k := k) (by omega)
 obtain ⟨V, hV⟩ : ∃ V, V = x[k] := ⟨_, rfl⟩
 have hg : (x.map zo)[k]? = some (zo V) := by rw [hV]; exact zbi x k hk
 have vg : VP n i x k -> VG mxT n i V := λ ⟨_, h, _⟩ => by rw [hV]; exact h
 rw [<- hV] at hv
 by_cases k1 : V.1 < 1
 ·refine .inr ⟨λ h => by have := (vg h).kd.lt; simp only [kdV] at this; omega, hu _ ?_⟩
  simp only [zV]
  simp only [List.length_map, e2, h0, if_true, Int.toNat_natCast, hg, rd7, k1, decide_true]
 by_cases k2 : V.1 > 6
 ·refine .inr ⟨λ h => by have := (vg h).kd.lt; simp only [kdV] at this; omega, hu _ ?_⟩
  simp only [zV]
  simp only [List.length_map, e2, h0, if_true, Int.toNat_natCast, hg, rd7, k1, k2, decide_true, decide_false]
 by_cases t1 : V.2.1 < 0
 ·refine .inr ⟨λ h => by have := (vg h).at0; simp only [atV] at this; omega, hu _ ?_⟩
  simp only [zV]
  simp only [List.length_map, e2, h0, if_true, Int.toNat_natCast, hg, rd7, k1, k2, t1, decide_true, decide_false]
 by_cases t2 : V.2.1 > 18014398509481984
 ·refine .inr ⟨λ h => by have : V.2.1 <= 18014398509481984 := (vg h).atT; omega, hu _ ?_⟩
  simp only [zV]
  simp only [List.length_map, e2, h0, if_true, Int.toNat_natCast, hg, rd7, k1, k2, t1, t2, decide_true, decide_false]
 rcases ze2 hv.pk with ⟨hE, he, -⟩ | ⟨hE, he, -⟩
 case inr =>
  replace he : zaF 600 [zl (zm V)] = some false := he
  refine .inr ⟨λ h => hE (vg h).ev, hu _ ?_⟩
  simp only [zV]
  simp only [List.length_map, e2, h0, if_true, Int.toNat_natCast, hg, rd7, k1, k2, t1, t2, decide_false, he, Bool.not_false]
 replace he : zaF 600 [zl (zm V)] = some true := he
 have hkd : Kd6 (kdV V) := by unfold Kd6; simp only [kdV]; omega
 rcases zpp hv n i hkd (k : Int) (x.map zo) with ⟨b1, b2, hp⟩ | ⟨hb, hp⟩
 case inr =>
  refine .inr ⟨λ h => hb ⟨(vg h).by1, (vg h).by2⟩, hu _ ?_⟩
  simp only [zV]
  simp only [List.length_map, e2, h0, if_true, Int.toNat_natCast, hg, rd7, k1, k2, t1, t2, decide_false, he, Bool.not_true, hp]
 -- the entry that it is merged into
 have red : (¬ ((kdV V ≠ 5 -> inV V = 0) /\ (kdV V = 5 -> 0 <= inV V /\ inV V < n /\ inV V ≠ i)) /\ (zV 600).b ((i : Int), (n : Int), (k : Int), x.map zo) _ Lf some = some (.inl (false, x.map zo))) \/ (((kdV V ≠ 5 -> inV V = 0) /\ (kdV V = 5 -> 0 <= inV V /\ inV V < n /\ inV V ≠ i)) /\ (zV 600).b ((i : Int), (n : Int), (k : Int), x.map zo) _ Lf some = vrT V (x.map zo) (i : Int) (n : Int) (k : Int) Lf) := by
  by_cases k5 : V.1 = 5
  ·have d1 : (V.1 != 5) = false := by simp [k5]
   have d2 : (V.1 == 5) = true := by simp [k5]
   by_cases p1 : V.2.2.2.1 < 0
   ·refine .inl ⟨λ h => by have := (h.2 k5).1; simp only [inV] at this; omega, ?_⟩
    simp only [zV]
    simp only [List.length_map, e2, h0, if_true, Int.toNat_natCast, hg, rd7, k1, k2, t1, t2, decide_false, he, Bool.not_true, hp, d1, d2, p1, decide_true]
   by_cases p2 : V.2.2.2.1 >= (n : Int)
   ·refine .inl ⟨λ h => by have := (h.2 k5).2.1; simp only [inV] at this; omega, ?_⟩
    simp only [zV]
    simp only [List.length_map, e2, h0, if_true, Int.toNat_natCast, hg, rd7, k1, k2, t1, t2, decide_false, he, Bool.not_true, hp, d1, d2, p1, p2, decide_true]
   by_cases p3 : V.2.2.2.1 = (i : Int)
   ·have d3 : (V.2.2.2.1 == (i : Int)) = true := by simp [p3]
    refine .inl ⟨λ h => (h.2 k5).2.2 p3, ?_⟩
    simp only [zV]
    simp only [List.length_map, e2, h0, if_true, Int.toNat_natCast, hg, rd7, k1, k2, t1, t2, decide_false, he, Bool.not_true, hp, d1, d2, p1, p2, d3]
   ·have d3 : (V.2.2.2.1 == (i : Int)) = false := by simp [p3]
    refine .inr ⟨⟨λ h => absurd k5 h, λ _ => ⟨Int.not_lt.1 p1, Int.not_le.1 p2, p3⟩⟩, ?_⟩
    simp only [zV]
    simp only [List.length_map, e2, h0, if_true, Int.toNat_natCast, hg, rd7, k1, k2, t1, t2, decide_false, he, Bool.not_true, hp, d1, d2, p1, p2, d3]
    rfl
  ·have d1 : (V.1 != 5) = true := by simp [k5]
   have d2 : (V.1 == 5) = false := by simp [k5]
   by_cases p1 : V.2.2.2.1 = 0
   ·have d3 : (V.2.2.2.1 != 0) = false := by simp [p1]
    refine .inr ⟨⟨λ _ => p1, λ h => absurd h k5⟩, ?_⟩
    simp only [zV]
    simp only [List.length_map, e2, h0, if_true, Int.toNat_natCast, hg, rd7, k1, k2, t1, t2, decide_false, he, Bool.not_true, hp, d1, d2, d3]
    rfl
   ·have d3 : (V.2.2.2.1 != 0) = true := by simp [p1]
    refine .inl ⟨λ h => p1 (h.1 k5), ?_⟩
    simp only [zV]
    simp only [List.length_map, e2, h0, if_true, Int.toNat_natCast, hg, rd7, k1, k2, t1, t2, decide_false, he, Bool.not_true, hp, d1, d3]
 rcases red with ⟨r1, r2⟩ | ⟨r1, r2⟩
 ·exact .inr ⟨λ h => r1 ⟨(vg h).in1, (vg h).in2⟩, hu _ r2⟩
 ·have vgV : VG mxT n i V := ⟨hkd, Int.not_lt.1 t1, Int.not_lt.1 t2, b1, b2, r1.1, r1.2, hE⟩
  rw [hV] at r2 vgV
  rcases zAo hW hx (i : Int) (n : Int) hk Lf with ⟨q1, q2⟩ | ⟨q1, q2⟩
  ·exact .inl ⟨⟨hk, vgV, q1⟩, hu _ (r2.trans q2)⟩
  ·exact .inr ⟨λ ⟨_, _, h⟩ => q1 h, hu _ (r2.trans q2)⟩
end
section
open Classical
theorem zvH {x : List RT7} (hW : ∀ v ∈ x, WfV v) (hx : x.length <= 100) (n i : Nat) : ∀ (d k f : Nat), k + d = x.length -> d < f -> (zV 600).L f ((i : Int), (n : Int), (k : Int), x.map zo) = if All (VP n i x) k x.length then some (.inr (x.map zo)) else some (.inl (false, x.map zo)) := by
 intro d
 induction d with
 | zero =>
  intro k f hk hf
  obtain ⟨f, rfl⟩ := pS hf
  obtain rfl : k = x.length := by omega
  rw [if_pos (All.nil _ _)]
  show (zV 600).b _ _ ((zV 600).L f) some = _
  have e2 := ltF x.length x.length (by omega)
  simp only [zV]
  simp only [List.length_map, e2]
 | succ d ih =>
  intro k f hk hf
  obtain ⟨f, rfl⟩ := pS hf
  have hkl : k < x.length := by omega
  rcases zvI hW hx n i hkl f with ⟨h1, h2⟩ | ⟨h1, h2⟩
  ·rw [h2, ih (k + 1) f (by omega) (by omega), All.ite h1]
  ·rw [h2, if_neg (All.no hkl h1)]
theorem zDb {x : List RT7} (hW : ∀ v ∈ x, WfV v) (hx : x.length <= 100) (n i : Nat) : zto 600 (x.map zo, (i : Int), (n : Int)) = some (decide (XG mxT n i 100 x)) := by
 have h1 : (zV 600).L 600 ((i : Int), (n : Int), 0, x.map zo) = _ := zvH hW hx n i x.length 0 600 (by omega) (by omega)
 have hd : decide (XG mxT n i 100 x) = decide (x ≠ [] /\ x.length <= 100 /\ ∀ k, k < x.length -> VP n i x k) := by simp only [zm1]
 rw [hd]
 simp only [zto, FSpec.d, ztq, zro, h1]
 by_cases ha : All (VP n i x) 0 x.length
 ·rw [if_pos ha]
  have e2 : decide ((x.length : Int) <= 100) = true := dT (by omega)
  have e3 : ∀ k, k < x.length -> VP n i x k := λ k hk => ha k (Nat.zero_le _) hk
  cases x with
  | nil => rfl
  | cons a x =>
   have e1 : decide (((a :: x).length : Int) >= 1) = true := by rw [decide_eq_true_iff, List.length_cons]; omega
   rw [decide_eq_true (p := (a :: x ≠ [] /\ _)) ⟨by simp, hx, e3⟩]
   simp only [List.length_map, e1, e2]
 ·rw [if_neg ha, decide_eq_false λ h => ha λ k _ hk => h.2.2 k hk]
def XP (C : qC) (k : Nat) : Prop := ∃ h : k < C.length, XG mxT C.length k 100 C[k]
theorem zhX {C : qC} (hC : C.length <= 500) : CG mxT 100 500 C ↔ All (XP C) 0 C.length :=
 ⟨λ h j _ hj => ⟨hj, h.xs j hj⟩, λ h => ⟨λ k hk => (h k (Nat.zero_le _) hk).2, hC⟩⟩
theorem zuf {C : qC} (hW : Wf C) : ∀ (d k f : Nat), k + d = C.length -> d < f -> (jN 600).L f ((k : Int), zj C) = if All (XP C) k C.length then some (.inr (zj C)) else some (.inl (false, zj C)) := by
 have hle := hW.le
 intro d
 induction d with
 | zero =>
  intro k f hk hf
  obtain ⟨f, rfl⟩ := pS hf
  obtain rfl : k = C.length := by omega
  rw [if_pos (All.nil _ _)]
  show (jN 600).b _ _ ((jN 600).L f) some = _
  have e2 := ltF C.length C.length (by omega)
  simp only [jN]
  simp only [zq, e2]
 | succ d ih =>
  intro k f hk hf
  obtain ⟨f, rfl⟩ := pS hf
  have hkl : k < C.length := by omega
  have r1 := ih (k + 1) f (by omega) (by omega)
  show (jN 600).b _ _ ((jN 600).L f) some = _
  generalize (jN 600).L f = Lf at r1 |-
  have e2 := ltT k C.length (by omega)
  have h0 := nnI k
  have v1 := zDb (hW.vs _ (List.getElem_mem hkl)) (hW.xs _ (List.getElem_mem hkl)) C.length k
  simp only [jN]
  simp only [zq, e2, h0, if_true, Int.toNat_natCast, zC C k hkl, rd6, v1, Zk k (by omega)]
  by_cases hx : XG mxT C.length k 100 C[k]
  ·rw [decide_eq_true hx]
   exact r1.trans (All.ite (show XP C k from ⟨hkl, hx⟩) _ _)
  ·rw [decide_eq_false hx, if_neg (All.no hkl λ h => hx h.2)]
   rfl
theorem Js {C : qC} (hW : Wf C) : zfK 600 (zj C) = some (decide (CG mxT 100 500 C)) := by
 have hle := hW.le
 have h1 : (jN 600).L 600 (0, zj C) = _ := zuf hW C.length 0 600 (by omega) (by omega)
 have e2 : decide ((C.length : Int) <= 500) = true := dT (by omega)
 simp only [zfK, FSpec.d, zsT, zra, h1]
 by_cases ha : All (XP C) 0 C.length
 ·rw [if_pos ha, decide_eq_true ((zhX hle).2 ha)]
  simp only [zq, e2]
 ·rw [if_neg ha, decide_eq_false λ h => ha ((zhX hle).1 h)]
theorem zvG {x : List RT7} (hW : ∀ v ∈ x, WfV v) (hx : x.length <= 100) (C : qC) (hC : C.length <= 500) (i : Nat) (h1 : ∀ h : 0 < x.length, kdV x[0] = 1) {k : Nat} (hk : k < x.length) (hp : ∀ j, j < k -> VP C.length i x j) (f : Nat) :
  (VP C.length i x k /\ (zT 600).L (f + 1) (zj C, x.map zo, (i : Int), (C.length : Int), (i : Int), (x.length : Int), (k : Int), zj C, x.map zo) = (zT 600).L f (zj C, x.map zo, (i : Int), (C.length : Int), (i : Int), (x.length : Int), ((k + 1 : Nat) : Int), zj C, x.map zo)) \/ (¬ VP C.length i x k /\ (zT 600).L (f + 1) (zj C, x.map zo, (i : Int), (C.length : Int), (i : Int), (x.length : Int), (k : Int), zj C, x.map zo) = some (.inl (zj C, false, (C.length : Int), (i : Int), zj C))) := by
 have hv := hW x[k] (List.getElem_mem _)
 obtain ⟨Lf, hLf⟩ : ∃ Lf, Lf = (zT 600).L f := ⟨_, rfl⟩
 have hu : ∀ y, (zT 600).b (zj C, x.map zo, (i : Int), (C.length : Int), (i : Int), (x.length : Int), (k : Int), zj C, x.map zo) _ Lf some = y -> (zT 600).L (f + 1) (zj C, x.map zo, (i : Int), (C.length : Int), (i : Int), (x.length : Int), (k : Int), zj C, x.map zo) = y := λ y h => by rw [hLf] at h; exact h
 rw [<- hLf]
 have e2 := ltT k x.length (by omega)
 have h0 := nnI k
 have n1 := zbJ (k := k) (by omega)
 have hs := zvs hv C.length i
 by_cases hg : VG mxT C.length i x[k]
 case neg =>
  rw [decide_eq_false hg] at hs
  refine .inr ⟨λ ⟨_, h, _⟩ => hg h, hu _ ?_⟩
  simp only [zT]
  simp only [e2, h0, if_true, Int.toNat_natCast, zbi x k hk, rd7, zq, hs, Bool.not_false]
 rw [decide_eq_true hg] at hs
 cases k with
 | zero =>
  have d6 : (((0 : Nat) : Int) == 0) = true := by decide
  refine .inl ⟨⟨hk, hg, λ _ => h1 hk, λ j _ e => by omega⟩, hu _ ?_⟩
  simp only [zT]
  simp only [e2, h0, if_true, Int.toNat_natCast, zbi x 0 hk, rd7, zq, hs, Bool.not_true, d6, n1]
  exact if_pos trivial
 | succ k' =>
  obtain ⟨_, hg', -⟩ := hp k' (by omega)
  have d6 : (((k' + 1 : Nat) : Int) == 0) = false := by simp; omega
  have d7 : i64 (((k' + 1 : Nat) : Int) - 1) = (k' : Int) := by rw [zW (by omega)]; omega
  have h0' : 0 <= (k' : Int) := by omega
  have q1 : 0 <= x[k' + 1].1 /\ x[k' + 1].1 < 7 := ⟨hg.kd.lt.1, hg.kd.lt.2.1⟩
  have q2 : 0 <= x[k'].1 /\ x[k'].1 < 7 := ⟨hg'.kd.lt.1, hg'.kd.lt.2.1⟩
  have t1 := zvw hg.kd hg'.kd
  have t2 := zqy hg.kd
  simp only [kdV] at t1 t2
  have bad : ¬ Stp x[k'] x[k' + 1] -> ¬ VP C.length i x (k' + 1) := λ h ⟨_, _, _, g⟩ => h (g k' (by omega) rfl)
  have good : Stp x[k'] x[k' + 1] -> VP C.length i x (k' + 1) := λ h => ⟨hk, hg, λ e => by omega, λ j hj e => by
   obtain rfl : k' = j := by omega
   exact h⟩
  by_cases t3 : x[k' + 1].2.1 < x[k'].2.1
  ·refine .inr ⟨bad λ h => (by have := h.1; simp only [atV] at this; omega), hu _ ?_⟩
   simp only [zT]
   simp only [e2, h0, if_true, Int.toNat_natCast, zbi x (k' + 1) hk, rd7, zq, hs, Bool.not_true, d6, d7, h0', zbi x k' (by omega), t3, decide_true]
  cases hf : zvN (kdV x[k' + 1]) (kdV x[k']) with
  | false =>
   simp only [kdV] at hf
   rw [hf] at t1
   refine .inr ⟨bad λ h => (by have := h.2.1; simp only [kdV] at this; rw [hf] at this; cases this), hu _ ?_⟩
   simp only [zT]
   simp only [e2, h0, if_true, Int.toNat_natCast, zbi x (k' + 1) hk, rd7, zq, hs, Bool.not_true, d6, d7, h0', zbi x k' (by omega), t3, decide_false, q1, q2, and_self, t1, Bool.not_false]
  | true =>
   have hf' := hf
   simp only [kdV] at hf
   rw [hf] at t1
   cases hkp : zcR x[k' + 1].1 with
   | false =>
    rw [hkp] at t2
    refine .inl ⟨good ⟨by simp only [atV]; omega, hf', λ h => by rw [show zcR (kdV x[k' + 1]) = zcR x[k' + 1].1 from rfl, hkp] at h; cases h⟩, hu _ ?_⟩
    simp only [zT]
    simp only [e2, h0, if_true, Int.toNat_natCast, zbi x (k' + 1) hk, rd7, zq, hs, Bool.not_true, d6, d7, h0', zbi x k' (by omega), t3, decide_false, q1, q2, and_self, t1, t2, n1]
    exact if_pos trivial
   | true =>
    rw [hkp] at t2
    obtain ⟨b, w1, w2⟩ := ze0 (evV x[k' + 1]) (evV x[k']) hv.pk (hW _ (List.getElem_mem _)).pk
    replace w1 : zfO 600 (zm x[k' + 1], zm x[k']) = some b := w1
    cases b with
    | false =>
     refine .inr ⟨bad λ h => (by have := w2.2 (h.2.2 hkp).symm; cases this), hu _ ?_⟩
     simp only [zT]
     simp only [e2, h0, if_true, Int.toNat_natCast, zbi x (k' + 1) hk, rd7, zq, hs, Bool.not_true, d6, d7, h0', zbi x k' (by omega), t3, decide_false, q1, q2, and_self, t1, t2, w1, Bool.not_false]
    | true =>
     refine .inl ⟨good ⟨by simp only [atV]; omega, hf', λ _ => (w2.1 rfl).symm⟩, hu _ ?_⟩
     simp only [zT]
     simp only [e2, h0, if_true, Int.toNat_natCast, zbi x (k' + 1) hk, rd7, zq, hs, Bool.not_true, d6, d7, h0', zbi x k' (by omega), t3, decide_false, q1, q2, and_self, t1, t2, w1, n1]
     exact if_pos trivial
theorem zvF {x : List RT7} (hW : ∀ v ∈ x, WfV v) (hx : x.length <= 100) (C : qC) (hC : C.length <= 500) (i : Nat) (h1 : ∀ h : 0 < x.length, kdV x[0] = 1) : ∀ (d k f : Nat), k + d = x.length -> d < f -> (∀ j, j < k -> VP C.length i x j) -> (zT 600).L f (zj C, x.map zo, (i : Int), (C.length : Int), (i : Int), (x.length : Int), (k : Int), zj C, x.map zo) = if All (VP C.length i x) k x.length then some (.inr (zj C, (C.length : Int), (i : Int), zj C)) else some (.inl (zj C, false, (C.length : Int), (i : Int), zj C)) := by
 intro d
 induction d with
 | zero =>
  intro k f hk hf hp
  obtain ⟨f, rfl⟩ := pS hf
  obtain rfl : k = x.length := by omega
  rw [if_pos (All.nil _ _)]
  show (zT 600).b _ _ ((zT 600).L f) some = _
  have e2 := ltF x.length x.length (by omega)
  simp only [zT]
  simp only [e2]
 | succ d ih =>
  intro k f hk hf hp
  obtain ⟨f, rfl⟩ := pS hf
  have hkl : k < x.length := by omega
  rcases zvG hW hx C hC i h1 hkl hp f with ⟨g1, g2⟩ | ⟨g1, g2⟩
  ·rw [g2, ih (k + 1) f (by omega) (by omega) λ j hj => by
    rcases Nat.lt_or_eq_of_le (Nat.le_of_lt_succ hj) with h | rfl
    ·exact hp j h
    ·exact g1, All.ite g1]
  ·rw [g2, if_neg (All.no hkl g1)]
theorem zue {C : qC} (hW : Wf C) : ∀ (d k f : Nat), k + d = C.length -> d < f -> (jK 600).L f (zj C, (C.length : Int), (k : Int), zj C) = if All (XP C) k C.length then some (.inr ()) else some (.inl false) := by
 have hle := hW.le
 intro d
 induction d with
 | zero =>
  intro k f hk hf
  obtain ⟨f, rfl⟩ := pS hf
  obtain rfl : k = C.length := by omega
  rw [if_pos (All.nil _ _)]
  show (jK 600).b _ _ ((jK 600).L f) some = _
  have e2 := ltF C.length C.length (by omega)
  simp only [jK]
  simp only [e2]
 | succ d ih =>
  intro k f hk hf
  obtain ⟨f, rfl⟩ := pS hf
  have hkl : k < C.length := by omega
  have r1 := ih (k + 1) f (by omega) (by omega)
  show (jK 600).b _ _ ((jK 600).L f) some = _
  generalize (jK 600).L f = Lf at r1 |-
  have e2 := ltT k C.length (by omega)
  have h0 := nnI k
  have hvs := hW.vs _ (List.getElem_mem hkl)
  have hxl := hW.xs _ (List.getElem_mem hkl)
  have hgt := zC C k hkl
  have hXP : XP C k ↔ XG mxT C.length k 100 C[k] := ⟨λ h => h.2, λ h => ⟨hkl, h⟩⟩
  obtain ⟨x, hx⟩ : ∃ x, x = C[k] := ⟨_, rfl⟩
  rw [<- hx] at hvs hxl hgt hXP
  have c2 : decide ((x.length : Int) > 100) = false := dF (by omega)
  simp only [jK]
  simp only [e2, h0, if_true, Int.toNat_natCast, hgt, rd6, List.length_map, c2]
  by_cases hne : x = []
  ·subst hne
   rw [if_neg (All.no hkl λ h => (hXP.1 h).ne rfl)]
   rfl
  have hp := List.length_pos_iff.2 hne
  have c1 : decide ((x.length : Int) < 1) = false := dF (by omega)
  have c3 : (x.map zo)[(0 : Int).toNat]? = some (zo x[0]) := zbi x 0 hp
  have c4 : ((zo x[0]).drop 0)[0]? = some (.v (.int .i64 x[0].1)) := rfl
  have c6 : (0 : Int) <= 0 := by omega
  by_cases hk1 : x[0].1 = 1
  case neg =>
   have c5 : (x[0].1 != 1) = true := by simp [hk1]
   rw [if_neg (All.no hkl λ h => hk1 ((hXP.1 h).hd hp))]
   simp only [c1, c6, c3, c4, c5, if_true]
  have c5 : (x[0].1 != 1) = false := by simp [hk1]
  have r2 := zvF hvs hxl C hle k (λ _ => hk1) x.length 0 600 (by omega) (by omega) (λ j hj => by omega)
  replace r2 : (zT 600).L 600 (zj C, x.map zo, (k : Int), (C.length : Int), (k : Int), (x.length : Int), 0, zj C, x.map zo) = _ := r2
  simp only [c1, c6, c3, c4, c5, if_true, zlp, r2]
  by_cases ha : All (VP C.length k x) 0 x.length
  ·rw [if_pos ha]
   have hg : XP C k := hXP.2 ((zm1 _ _ _).2 ⟨hne, hxl, λ j hj => ha j (Nat.zero_le _) hj⟩)
   simp only [Zk k (by omega), r1, All.ite hg]
   rfl
  ·rw [if_neg ha, if_neg (All.no hkl λ h => ha λ j _ hj => ((zm1 _ _ _).1 (hXP.1 h)).2.2 j hj)]
theorem za1 {C : qC} (hW : Wf C) : zgP 600 (zj C) = some (decide (CG mxT 100 500 C)) := by
 have hle := hW.le
 have h1 : (jK 600).L 600 (zj C, (C.length : Int), 0, zj C) = _ := zue hW C.length 0 600 (by omega) (by omega)
 have e2 : decide ((C.length : Int) > 500) = false := dF (by omega)
 simp only [zgP, FSpec.d, zsQ, zq6, zq, e2, h1]
 by_cases ha : All (XP C) 0 C.length
 ·rw [if_pos ha, decide_eq_true ((zhX hle).2 ha)]
 ·rw [if_neg ha, decide_eq_false λ h => ha ((zhX hle).1 h)]
end
section
open Classical
theorem XG.asc {T : Int} {n i m : Nat} {x : List RT7} (h : XG T n i m x) : ∀ (d k : Nat) (hk : k + d < x.length), atV x[k] <= atV x[k + d] := by
 intro d
 induction d with
 | zero => intro k hk; exact Int.le_refl _
 | succ d ih => intro k hk; exact Int.le_trans (ih k (by omega)) (h.st (k + d) hk).1
def AP (C : qC) (t : Int) (k : Nat) : Prop := ∀ (h : k < C.length) (v : RT7), v ∈ C[k] -> atV v <= t
theorem XG.ap {T : Int} {n i m : Nat} {x : List RT7} (h : XG T n i m x) (t : Int) : atV (x.getLast h.ne) <= t ↔ ∀ v ∈ x, atV v <= t := by
 have hp := h.pos
 rw [List.getLast_eq_getElem]
 refine ⟨λ h1 v hv => ?_, λ h1 => h1 _ (List.getElem_mem _)⟩
 obtain ⟨k, hk, rfl⟩ := List.getElem_of_mem hv
 have h2 := h.asc (x.length - 1 - k) k (by omega)
 have e : k + (x.length - 1 - k) = x.length - 1 := by omega
 simp only [e] at h2
 exact Int.le_trans h2 h1
theorem zpR {C : qC} {t : Int} (h : CG mxT 100 500 C) : ∀ (d k f : Nat), k + d = C.length -> d < f -> (jO 600).L f (t, (k : Int), zj C) = if All (AP C t) k C.length then some (.inr ()) else some (.inl false) := by
 intro d
 induction d with
 | zero =>
  intro k f hk hf
  obtain ⟨f, rfl⟩ := pS hf
  obtain rfl : k = C.length := by omega
  rw [if_pos (All.nil _ _)]
  show (jO 600).b _ _ ((jO 600).L f) some = _
  have e2 := ltF C.length C.length (by omega)
  simp only [jO]
  simp only [zq, e2]
 | succ d ih =>
  intro k f hk hf
  obtain ⟨f, rfl⟩ := pS hf
  have hkl : k < C.length := by omega
  have r1 := ih (k + 1) f (by omega) (by omega)
  show (jO 600).b _ _ ((jO 600).L f) some = _
  generalize (jO 600).L f = Lf at r1 |-
  have e2 := ltT k C.length (by omega)
  have h0 := nnI k
  have hle := h.le
  have hx := h.xs k hkl
  have v1 := zcS C[k] hx.ne (by have := hx.le; omega)
  simp only [jO]
  simp only [zq, e2, h0, if_true, Int.toNat_natCast, zC C k hkl, rd6, v1]
  by_cases hc : atV (C[k].getLast hx.ne) <= t
  ·have v2 : decide ((C[k].getLast hx.ne).2.1 > t) = false := by rw [decide_eq_false_iff_not]; simp only [atV] at hc; omega
   have ha : AP C t k := λ _ => (hx.ap t).1 hc
   simp only [v2, Zk k (by omega)]
   exact r1.trans (All.ite ha _ _)
  ·have v2 : decide ((C[k].getLast hx.ne).2.1 > t) = true := by rw [decide_eq_true_iff]; simp only [atV] at hc; omega
   rw [if_neg (All.no hkl λ h => hc ((hx.ap t).2 (h hkl)))]
   simp only [v2]
theorem zuL {C : qC} {t : Int} (h : CG mxT 100 500 C) : zo5 600 (zj C, t) = some (decide (All (AP C t) 0 C.length)) := by
 have hle := h.le
 have h1 : (jO 600).L 600 (t, 0, zj C) = _ := zpR h C.length 0 600 (by omega) (by omega)
 simp only [zo5, FSpec.d, ztB, zrt, h1]
 by_cases ha : All (AP C t) 0 C.length
 ·rw [if_pos ha, decide_eq_true ha]
 ·rw [if_neg ha, decide_eq_false ha]
theorem zzy {C : qC} (hC : CG mxT 100 500 C) (i : Nat) (hi : i < C.length) : ∀ (d k f : Nat) (y : Int), k + d = C[i].length -> d < f -> ∃ y', (ZT 600).L f (zj C, C[i].map zo, y, (C.length : Int), (i : Int), (C[i].length : Int), (k : Int)) = some (zj C, y', (C.length : Int), (i : Int)) /\ ∀ t, y' <= t ↔ y <= t /\ All (λ j => ∀ h : j < C[i].length, atV C[i][j] <= t) k C[i].length := by
 have h := hC.xs i hi
 have hle := hC.le
 have hxl := h.le
 intro d
 induction d with
 | zero =>
  intro k f y hk hf
  obtain ⟨f, rfl⟩ := pS hf
  obtain rfl : k = C[i].length := by omega
  refine ⟨y, ?_, λ t => ⟨λ h => ⟨h, All.nil _ _⟩, λ h => h.1⟩⟩
  show (ZT 600).b _ _ ((ZT 600).L f) some = _
  have e2 := ltF C[i].length C[i].length (by omega)
  simp only [ZT]
  simp only [e2]
 | succ d ih =>
  intro k f y hk hf
  obtain ⟨f, rfl⟩ := pS hf
  have hkl : k < C[i].length := by omega
  obtain ⟨y', r1, r2⟩ := ih (k + 1) f (if C[i][k].2.1 > y then C[i][k].2.1 else y) (by omega) (by omega)
  refine ⟨y', ?_, λ t => (r2 t).trans ⟨λ ⟨g1, g2⟩ => ?_, λ ⟨g1, g2⟩ => ?_⟩⟩
  ·show (ZT 600).b _ _ ((ZT 600).L f) some = _
   generalize (ZT 600).L f = Lf at r1 |-
   have e2 := ltT k C[i].length (by omega)
   have h0 := nnI k
   simp only [ZT]
   simp only [e2, h0, if_true, Int.toNat_natCast, zbi C[i] k hkl, rd7, Zk k (by omega)]
   exact r1
  ·have a : y <= t /\ C[i][k].2.1 <= t := by split at g1 <;> omega
   exact ⟨a.1, (All.step (p := λ j => ∀ h : j < C[i].length, atV C[i][j] <= t) λ _ => a.2).2 g2⟩
  ·have a : C[i][k].2.1 <= t := g2 k (Nat.le_refl _) hkl hkl
   exact ⟨by split <;> omega, λ j h1 h2 => g2 j (by omega) h2⟩
theorem zuU {C : qC} (hC : CG mxT 100 500 C) : ∀ (d k f : Nat) (y : Int), k + d = C.length -> d < f -> ∃ y' : Int, (jQ 600).L f (zj C, y, (C.length : Int), (k : Int)) = some y' /\ ∀ t, y' <= t ↔ y <= t /\ All (AP C t) k C.length := by
 have hle := hC.le
 intro d
 induction d with
 | zero =>
  intro k f y hk hf
  obtain ⟨f, rfl⟩ := pS hf
  obtain rfl : k = C.length := by omega
  refine ⟨y, ?_, λ t => ⟨λ h => ⟨h, All.nil _ _⟩, λ h => h.1⟩⟩
  show (jQ 600).b _ _ ((jQ 600).L f) some = _
  have e2 := ltF C.length C.length (by omega)
  simp only [jQ]
  simp only [e2]
 | succ d ih =>
  intro k f y hk hf
  obtain ⟨f, rfl⟩ := pS hf
  have hkl : k < C.length := by omega
  have hxl := (hC.xs k hkl).le
  obtain ⟨y1, a1, a2⟩ := zzy hC k hkl C[k].length 0 600 y (by omega) (by omega)
  replace a1 : (ZT 600).L 600 (zj C, C[k].map zo, y, (C.length : Int), (k : Int), (C[k].length : Int), 0) = _ := a1
  obtain ⟨y', r1, r2⟩ := ih (k + 1) f y1 (by omega) (by omega)
  have hap : ∀ t, AP C t k ↔ All (λ j => ∀ h : j < C[k].length, atV C[k][j] <= t) 0 C[k].length := λ t => ⟨λ h j _ hj _ => h hkl _ (List.getElem_mem _), λ h _ v hv => by
   obtain ⟨j, hj, rfl⟩ := List.getElem_of_mem hv
   exact h j (Nat.zero_le _) hj hj⟩
  refine ⟨y', ?_, λ t => (r2 t).trans ⟨λ ⟨g1, g2⟩ => ?_, λ ⟨g1, g2⟩ => ?_⟩⟩
  ·show (jQ 600).b _ _ ((jQ 600).L f) some = _
   generalize (jQ 600).L f = Lf at r1 |-
   have e2 := ltT k C.length (by omega)
   have h0 := nnI k
   simp only [jQ]
   simp only [e2, h0, if_true, Int.toNat_natCast, zC C k hkl, rd6, List.length_map, zmU, a1, Zk k (by omega)]
   exact r1
  ·have g3 := (a2 t).1 g1
   exact ⟨g3.1, (All.step ((hap t).2 g3.2)).2 g2⟩
  ·exact ⟨(a2 t).2 ⟨g1, (hap t).1 (g2 k (Nat.le_refl _) hkl)⟩, λ j h1 h2 => g2 j (by omega) h2⟩
theorem zou {C : qC} (hC : CG mxT 100 500 C) {t : Int} (h0 : 0 <= t) (ht : t <= 18014398509481984) : zjP 600 (zj C, t) = some (if All (AP C t) 0 C.length then 0 else 9) := by
 have hle := hC.le
 obtain ⟨y, h1, h2⟩ := zuU hC C.length 0 600 0 (by omega) (by omega)
 replace h1 : (jQ 600).L 600 (zj C, 0, (C.length : Int), 0) = some y := h1
 have c1 : decide (t < 0) = false := dF (by omega)
 have c2 : decide (t > 18014398509481984) = false := dF (by omega)
 simp only [zjP, FSpec.d, zoY, c1, c2, zyw, zt2, zrL, zq, h1]
 by_cases ha : All (AP C t) 0 C.length
 ·have c3 : decide (t < y) = false := by rw [decide_eq_false_iff_not]; have := (h2 t).2 ⟨h0, ha⟩; omega
  rw [if_pos ha]
  simp only [c3]
 ·have c3 : decide (t < y) = true := by rw [decide_eq_true_iff]; exact Int.not_le.1 λ h => ha ((h2 t).1 h).2
  rw [if_neg ha]
  simp only [c3]
theorem zvA (X : List (List AV)) {t : Int} (h : t < 0 \/ t > 18014398509481984) : zjP 600 (X, t) = some 2 := by
 simp only [zjP, FSpec.d, zoY]
 by_cases c : t < 0
 ·simp only [c, decide_true]
 ·simp only [c, h.resolve_left c, decide_true, decide_false]
theorem Wf.none : Wf [] := ⟨Nat.zero_le _, λ x h => by simp at h, λ x h => by simp at h⟩
end
section
def z9 (P : List RT1) : RT9 := ((⟨#[]⟩ : ByteArray), (⟨#[]⟩ : ByteArray), (⟨#[]⟩ : ByteArray), (⟨#[]⟩ : ByteArray), 0, 0, 0, 0, 0, P.map zh, 0, 0, 0, 0, 0, 0, 0, 0, 0, 0, 0, 0, 0, 0, 0, ())
def Raw (e : RT0) : Prop := ∃ P : List RT1, pkE e = P.map zh
theorem Raw.pk {e : RT0} (h : Raw e) (hs : smE e = true) : jj e := by
 obtain ⟨P, hP⟩ := h
 refine ⟨P, ?_, hP⟩
 unfold smE at hs
 simp only [Bool.and_eq_true, decide_eq_true_eq] at hs
 have := hs.1
 rw [show e.2.2.2.2.2.2.2.2.2.1 = P.map zh from hP, List.length_map] at this
 omega
theorem zz1 {C : qC} (h : ∀ x ∈ C, ∀ v ∈ x, Raw (evV v) /\ (byV v).size <= 9223372036854775807) (hs : smC C = true) : Wf C := by
 unfold smC at hs
 simp only [Bool.and_eq_true, decide_eq_true_eq, List.all_eq_true] at hs
 obtain ⟨h1, h2⟩ := hs
 have hx : ∀ x ∈ C, x.length <= 20 /\ ∀ v ∈ x, smE (evV v) = true := λ x hx => by
  have := h1 x hx
  unfold smX at this
  simp only [Bool.and_eq_true, List.all_eq_true, Bool.not_eq_true', decide_eq_false_iff_not] at this
  exact ⟨by omega, this.2⟩
 exact ⟨by omega, λ x hm => Nat.le_trans (hx x hm).1 (by omega), λ x hm v hv => ⟨(h x hm v hv).1.pk ((hx x hm).2 v hv), (h x hm v hv).2⟩⟩
end
section
open Classical
noncomputable def ze7 (p : Nat -> Prop) : Nat -> Nat -> Int
 | 0, _ => -1
 | d + 1, k => if p k then (k : Int) else ze7 p d (k + 1)
theorem zcJ (p : Nat -> Prop) : ∀ (d k : Nat), (ze7 p d k = -1 /\ ∀ j, k <= j -> j < k + d -> ¬ p j) \/ ∃ j : Nat, ze7 p d k = (j : Int) /\ k <= j /\ j < k + d /\ p j /\ ∀ i, k <= i -> i < j -> ¬ p i
 | 0, k => .inl ⟨rfl, λ j h1 h2 => by omega⟩
 | d + 1, k => by
  unfold ze7
  by_cases h : p k
  ·rw [if_pos h]
   exact .inr ⟨k, rfl, Nat.le_refl _, by omega, h, λ i h1 h2 => by omega⟩
  ·rw [if_neg h]
   have no : ∀ i, k <= i -> (k + 1 <= i -> ¬ p i) -> ¬ p i := λ i h1 h2 => by
    rcases Nat.eq_or_lt_of_le h1 with rfl | h1
    ·exact h
    ·exact h2 h1
   rcases zcJ p d (k + 1) with ⟨h1, h2⟩ | ⟨j, h1, h2, h3, h4, h5⟩
   ·exact .inl ⟨h1, λ j g1 g2 => no j g1 λ g => h2 j g (by omega)⟩
   ·exact .inr ⟨j, h1, by omega, by omega, h4, λ i g1 g2 => no i g1 λ g => h5 i g g2⟩
theorem znz (p : Nat -> Prop) (d : Nat) : -1 <= ze7 p d 0 /\ ze7 p d 0 < d := by
 rcases zcJ p d 0 with ⟨h1, h2⟩ | ⟨j, h1, h2, h3, h4, h5⟩ <;> omega
theorem zhs {p : Nat -> Prop} {d j : Nat} (hj : j < d) (h : p j) (h' : ∀ i, i < j -> ¬ p i) : ze7 p d 0 = (j : Int) := by
 rcases zcJ p d 0 with ⟨h1, h2⟩ | ⟨i, h1, h2, h3, h4, h5⟩
 ·exact absurd h (h2 j (Nat.zero_le _) (by omega))
 ·rcases Nat.lt_trichotomy i j with g | g | g
  ·exact absurd h4 (h' i g)
  ·rw [h1, g]
  ·exact absurd h (h5 j (Nat.zero_le _) g)
theorem ze8 {p : Nat -> Prop} {d : Nat} (h : ∀ i, i < d -> ¬ p i) : ze7 p d 0 = -1 := by
 rcases zcJ p d 0 with ⟨h1, h2⟩ | ⟨i, h1, h2, h3, h4, h5⟩
 ·exact h1
 ·exact absurd h4 (h i (by omega))
theorem JH {α : Type} (a : α) {L : List α} {i : Nat} (h : i < L.length) : L.getD i a = L[i] := by simp [List.getD, h]
noncomputable def jW (fit : Nat -> Nat -> Prop) (m i : Nat) (L : List Int) : List Int := if 0 <= L.getD i 0 then L else L.set i (ze7 (λ k => (k : Int) ∉ L /\ fit i k) m 0)
noncomputable def J0 (fit : Nat -> Nat -> Prop) (m n : Nat) (L : List Int) : List Int := (List.range' 0 n).foldl (λ L i => jW fit m i L) L
theorem zfs {fit : Nat -> Nat -> Prop} {m i : Nat} {L : List Int} (h : Rg m L) : Rg m (jW fit m i L) /\ (jW fit m i L).length = L.length := by
 unfold jW
 split
 ·exact ⟨h, rfl⟩
 ·exact ⟨h.set _ (znz _ _), List.length_set⟩
def lE (C : qC) (i : Nat) : RT0 := match (C.getD i []).getLast? with
 | some v => evV v
 | none => zE
theorem zhy {C : qC} {i : Nat} (hi : i < C.length) (h : C[i] ≠ []) : lE C i = evV (C[i].getLast h) := by
 unfold lE
 rw [JH _ hi, List.getLast?_eq_some_getLast h]
def zdg (C : qC) (A : List RT0) (i k : Nat) : Prop := ∃ h : k < A.length, nmE (lE C i) = nmE A[k]
def zdh (C : qC) (A : List RT0) (i k : Nat) : Prop := ∃ h : k < A.length, Com (pkL (lE C i)) (pkL A[k])
noncomputable def zi9 (C : qC) (A : List RT0) (i : Nat) (L : List Int) : Int := if ze7 (zdg C A i) A.length 0 ∈ L then -1 else ze7 (zdg C A i) A.length 0
noncomputable def zaq (C : qC) (A : List RT0) : List Int := J0 (zdh C A) A.length C.length ((List.range' 0 C.length).foldl (λ L i => L ++ [zi9 C A i L]) [])
theorem zuK {C : qC} {A : List RT0} {i : Nat} {z : Int} (h : ixD A (nmE (lE C i)) 0 z) : z = ze7 (zdg C A i) A.length 0 := by
 rcases h with ⟨rfl, h⟩ | ⟨j, rfl, h1, h2, h3, h4⟩
 ·exact (ze8 λ i hi ⟨h', e⟩ => h i h' (Nat.zero_le _) e.symm).symm
 ·exact (zhs h1 ⟨h1, h3.symm⟩ λ i hi ⟨h', e⟩ => h4 i h' (Nat.zero_le _) hi e.symm).symm
theorem zzJ {C : qC} {A : List RT0} (hA : EvsG A) : ∀ (d i : Nat) (L : List Int), L.length = i -> (List.range' i d).foldl (λ L i => jW (zdg C A) A.length i L) (L ++ List.replicate d (-1)) = (List.range' i d).foldl (λ L i => L ++ [zi9 C A i L]) L
 | 0, i, L, hl => by simp
 | d + 1, i, L, hl => by
  have r := zzJ (C := C) hA d (i + 1) (L ++ [zi9 C A i L]) (by simp [hl])
  rw [List.range'_succ, List.foldl_cons, List.foldl_cons, <- r]
  congr 1
  have hin : ∀ k : Nat, (k : Int) ∈ L ++ List.replicate (d + 1) (-1) ↔ (k : Int) ∈ L := λ k => by
   rw [List.mem_append]
   refine ⟨λ h => h.elim id λ h => ?_, .inl⟩
   have := List.eq_of_mem_replicate h
   omega
  have hg : (L ++ List.replicate (d + 1) (-1)).getD i 0 = -1 := by
   rw [JH _ (by simp; omega), List.getElem_append_right (by omega), List.getElem_replicate]
  have hx : ze7 (λ k => (k : Int) ∉ L ++ List.replicate (d + 1) (-1) /\ zdg C A i k) A.length 0 = zi9 C A i L := by
   have one : ∀ {j k : Nat}, zdg C A i j -> zdg C A i k -> j = k := λ ⟨h1, e1⟩ ⟨h2, e2⟩ => hA.inj h1 h2 (e1.symm.trans e2)
   unfold zi9
   rcases zcJ (zdg C A i) A.length 0 with ⟨h1, h2⟩ | ⟨j, h1, h2, h3, h4, h5⟩
   ·rw [h1, ze8 λ k hk h => h2 k (Nat.zero_le _) (by omega) h.2, ite_self]
   ·rw [h1]
    by_cases hj : (j : Int) ∈ L
    ·rw [if_pos hj, ze8 λ k hk h => h.1 ((hin k).2 (one h4 h.2 ▸ hj))]
    ·rw [if_neg hj, zhs (by omega) ⟨λ h => hj ((hin j).1 h), h4⟩ λ k hk h => by have := one h4 h.2; omega]
  unfold jW
  rw [hg, if_neg (by omega), hx, List.set_append_right _ _ (by omega), hl, Nat.sub_self, List.append_assoc]
  rfl
section
variable {C : qC} (hC : CG mxT 100 500 C) {A : List RT0} (hA : A.length <= 500) (hpk : ∀ a ∈ A, jj a)
include hC hA
theorem ziT : zlR 600 (0, A.map zl, 0, zj C, []) = some (C.length, A.map zl, zj C, ic ((List.range' 0 C.length).foldl (λ L i => L ++ [zi9 C A i L]) [])) /\ Rg A.length ((List.range' 0 C.length).foldl (λ L i => L ++ [zi9 C A i L]) []) /\ ((List.range' 0 C.length).foldl (λ L i => L ++ [zi9 C A i L]) []).length = C.length := by
 have hle := hC.le
 have := zcV (l := zaH 600) (S := List Int) (n := C.length) (λ k L => L.length = k /\ Rg A.length L) (λ i L => L ++ [zi9 C A i L]) (λ k L => (k, A.map zl, (k : Int), zj C, ic L)) (λ L => (C.length, A.map zl, zj C, ic L)) (λ L _ Lf => by
  have e2 := ltF C.length C.length (by omega)
  simp only [zaH, zq, e2, zt]) (λ k L hk hR Lf => by
  obtain ⟨hl, hr⟩ := hR
  have e2 := ltT k C.length (by omega)
  have h0 := nnI k
  have hx := hC.xs k hk
  have hla := zcS C[k] hx.ne (by have := hx.le; omega)
  obtain ⟨z, i1, i2⟩ := zuH A (nmE (lE C k)) hA
  obtain rfl := zuK i2
  rw [zhy hk hx.ne] at i1
  replace i1 : zmJ 600 (A.map zl, zhb (C[k].getLast hx.ne)) = _ := i1
  obtain ⟨b, j1, j2⟩ := zCT L (ze7 (zdg C A k) A.length 0) (by omega)
  rw [hl] at j1
  have hlen : (ic L).length = k := by rw [zcM, hl]
  have b1 : (k * 1 <= k /\ (k + 1) * 8 <= zd) = True := by unfold zd; simp; omega
  have tk : ∀ x : Int, (ic L).take (k * 1) ++ [[AV.v (.int .i64 x)]].flatten = ic (L ++ [x]) := λ x => by
   rw [Nat.mul_one, <- hlen, List.take_length]
   exact zzl L x
  have hrg : -1 <= zi9 C A k L /\ zi9 C A k L < A.length := by
   have := znz (zdg C A k) A.length
   unfold zi9
   split <;> omega
  refine ⟨⟨by simp [hl], hr.snoc hrg⟩, ?_⟩
  simp only [zaH, zq, e2, h0, if_true, Int.toNat_natCast, zC C k hk, rd6, hla, i1, zt, j1, hlen, List.length_cons, List.length_nil, Nat.zero_add, b1, tk, Zk k (by omega)]
  unfold zi9
  cases b with
  | true => rw [if_pos (j2.1 rfl)]; rfl
  | false => rw [if_neg λ h => by cases j2.2 h]; rfl) C.length 0 600 [] (by omega) (by omega) ⟨rfl, λ x h => by cases h⟩
 obtain ⟨s', e, ⟨h1, h2⟩, h3⟩ := this
 rw [e] at h1 h2 h3
 exact ⟨h3, h2, h1⟩
include hpk
theorem zCM (i : Nat) (hi : i < C.length) (L : List Int) (hl : L.length = C.length) (hr : Rg A.length L) : ∀ (d k f : Nat), k + d = A.length -> d + 1 < f -> (Zi 600).L f (A.map zl, C.length, (i : Int), (k : Int), zj C, ic L) = some (A.map zl, C.length, (i : Int), zj C, ic (if 0 <= L.getD i 0 then L else L.set i (ze7 (λ k => (k : Int) ∉ L /\ zdh C A i k) d k))) := by
 have hle := hC.le
 have hi0 := nnI i
 have hi1 : (i : Int) < (C.length : Int) := by omega
 have hiL : i < L.length := by omega
 have hx := hC.xs i hi
 have hla := zcS C[i] hx.ne (by have := hx.le; omega)
 have hg : L.getD i 0 = L[i] := JH _ hiL
 rw [hg]
 -- an entry that follows an event
 have fin : ∀ (M : List Int) (hM : M.length = C.length) (k f : Nat), k <= A.length -> 0 < f -> (∀ h : i < M.length, 0 <= M[i] \/ k = A.length) -> (Zi 600).L f (A.map zl, C.length, (i : Int), (k : Int), zj C, ic M) = some (A.map zl, C.length, (i : Int), zj C, ic M) := λ M hM k f hk hf h => by
  obtain ⟨f, rfl⟩ := pS hf
  show (Zi 600).b _ _ ((Zi 600).L f) some = _
  have hiM : i < M.length := by omega
  by_cases hkl : k < A.length
  ·have e2 := ltT k A.length (by omega)
   have e3 : decide (M[i] < 0) = false := decide_eq_false (by have := h hiM; omega)
   simp only [Zi, List.length_map, e2, hi0, hi1, and_self, if_true, Nat.zero_add, Nat.mul_one, Int.toNat_natCast, zcL M i hiM, e3, zt]
  ·have e2 := ltF k A.length (by omega)
   simp only [Zi, List.length_map, e2, zt]
 intro d
 induction d with
 | zero =>
  intro k f hk hf
  rw [fin L hl k f (by omega) (by omega) λ _ => .inr (by omega)]
  have : -1 <= L[i] := (hr _ (List.getElem_mem hiL)).1
  split
  ·rfl
  ·have e : L[i] = -1 := by omega
   unfold ze7
   rw [<- e, List.set_getElem_self]
 | succ d ih =>
  intro k f hk hf
  by_cases hneg : 0 <= L[i]
  ·rw [if_pos hneg]
   exact fin L hl k f (by omega) (by omega) λ _ => .inl hneg
  obtain ⟨f, rfl⟩ := pS hf
  have hkl : k < A.length := by omega
  have r := ih (k + 1) f (by omega) (by omega)
  have r2 := fin (L.set i (k : Int)) (by simpa using hl) (k + 1) f (by omega) (by omega) λ _ => .inl (by rw [List.getElem_set_self]; omega)
  show (Zi 600).b _ _ ((Zi 600).L f) some = _
  generalize (Zi 600).L f = Lf at r r2 |-
  rw [if_neg hneg] at r |-
  have e2 := ltT k A.length (by omega)
  have h0 := nnI k
  have e3 : decide (L[i] < 0) = true := decide_eq_true (by omega)
  obtain ⟨b, j1, j2⟩ := zCT L (k : Int) (by omega)
  rw [hl] at j1
  obtain ⟨hP1, hP⟩ := zvf hx.last.ev.pk
  obtain ⟨hQ1, hQ⟩ := zvf (hpk A[k] (List.getElem_mem _))
  obtain ⟨b2, q1, q2⟩ := zCB (pkL (evV (C[i].getLast hx.ne))) (pkL A[k]) (by omega) (by omega)
  have q3 : zmM 600 ((C[i].getLast hx.ne).2.2.2.2.2.2.2.2.2.2.2.2.2.1, (pkL A[k]).map zh) = some b2 := by
   rw [<- hP] at q1; exact q1
  have b1 : i + 1 <= (ic L).length := by rw [zcM]; omega
  simp only [Zi, List.length_map, e2, h0, hi0, hi1, and_self, if_true, Nat.zero_add, Nat.mul_one, Int.toNat_natCast, zcL L i hiL, e3, zt, j1]
  have no : ¬ ((k : Int) ∉ L /\ zdh C A i k) -> (Lf (A.map zl, C.length, (i : Int), ((k + 1 : Nat) : Int), zj C, ic L)) = some (A.map zl, C.length, (i : Int), zj C, ic (L.set i (ze7 (λ k => (k : Int) ∉ L /\ zdh C A i k) (d + 1) k))) := λ h => by
   unfold ze7
   rw [if_neg h]
   exact r
  cases b with
  | true =>
   simp only [Bool.not_true, Zk k (by omega)]
   exact no λ h => h.1 (j2.1 rfl)
  | false =>
   have nin : (k : Int) ∉ L := λ h => by cases j2.2 h
   simp only [Bool.not_false, zC C i hi, rd6, hla, ze9 A k hkl, pk0, zCV, hQ, q3]
   cases b2 with
   | false =>
    simp only [Zk k (by omega)]
    refine no λ h => ?_
    obtain ⟨h', h2⟩ := h.2
    rw [zhy hi hx.ne] at h2
    cases q2.2 h2
   | true =>
    have hfit : (k : Int) ∉ L /\ zdh C A i k := ⟨nin, hkl, by rw [zhy hi hx.ne]; exact q2.1 rfl⟩
    simp only [b1, if_true, znH, zt, Zk k (by omega)]
    unfold ze7
    rw [if_pos hfit]
    exact r2
theorem zgc (L : List Int) (hl : L.length = C.length) (hr : Rg A.length L) : zib 600 (A.map zl, C.length, 0, zj C, ic L) = some (C.length, ic (J0 (zdh C A) A.length C.length L)) /\ Rg A.length (J0 (zdh C A) A.length C.length L) /\ (J0 (zdh C A) A.length C.length L).length = C.length := by
 have hle := hC.le
 have := zcV (l := Ju 600) (S := List Int) (n := C.length) (λ k L => L.length = C.length /\ Rg A.length L) (λ i L => jW (zdh C A) A.length i L) (λ k L => (A.map zl, C.length, (k : Int), zj C, ic L)) (λ L => (C.length, ic L)) (λ L _ Lf => by
  have e2 := ltF C.length C.length (by omega)
  simp only [Ju, zq, e2, zt]) (λ k L hk hR Lf => by
  have e2 := ltT k C.length (by omega)
  have r : zic 600 (A.map zl, C.length, (k : Int), 0, zj C, ic L) = some (A.map zl, C.length, (k : Int), zj C, ic (jW (zdh C A) A.length k L)) := zCM hC hA hpk k hk L hR.1 hR.2 A.length 0 600 (by omega) (by omega)
  obtain ⟨s1, s2⟩ := zfs (fit := zdh C A) (i := k) hR.2
  refine ⟨⟨by rw [s2]; exact hR.1, s1⟩, ?_⟩
  simp only [Ju, zq, e2, zt, r, Zk k (by omega)]
  rfl) C.length 0 600 L (by omega) (by omega) ⟨hl, hr⟩
 obtain ⟨s', e, ⟨h1, h2⟩, h3⟩ := this
 rw [e] at h1 h2 h3
 exact ⟨h3, h2, h1⟩
theorem zny : zlQ 600 (zj C, A.map zl) = some (C.length, ic (zaq C A)) /\ Rg A.length (zaq C A) /\ (zaq C A).length = C.length := by
 obtain ⟨a1, a2, a3⟩ := ziT hC hA
 obtain ⟨b1, b2, b3⟩ := zgc hC hA hpk _ a3 a2
 refine ⟨?_, b2, b3⟩
 simp only [zlQ, FSpec.d, zlS, a1, zt, b1]
 rfl
end
end
section
open Classical
theorem zz6 {n : Nat} (h : n < 64) : zmz 600 ([[AV.v (.int .i64 (-1))]], (n : Int)) = some (n, ic (List.replicate n (-1))) := by
 have e : ((List.range 64).map λ n : Nat => zmz 600 ([[AV.v (.int .i64 (-1))]], (n : Int))) = (List.range 64).map λ n => some (n, ic (List.replicate n (-1))) := by kernel_rfl
 have := congrArg (λ l => l[n]?) e
 simpa [h] using this
def bk (m : Nat) (L : List Int) : List AV := (List.range m).map λ k : Nat => AV.v (.bool (decide ((k : Int) ∈ L)))
theorem znb {m k : Nat} (h : k < m) (L : List Int) : (bk m L)[k]? = some (AV.v (.bool (decide ((k : Int) ∈ L)))) := by simp [bk, h]
theorem znc (m : Nat) (L : List Int) : (bk m L).length = m := by simp [bk]
theorem zD (m : Nat) (L : List Int) : (bk m L).map dat0 = bk m L := by simp only [bk, List.map_map]; rfl
theorem mem_set {L : List Int} {i : Nat} (hi : i < L.length) (e : L[i] < 0) {x y : Int} (hx : 0 <= x) : x ∈ L.set i y ↔ x = y \/ x ∈ L := by
 refine ⟨λ h => (List.mem_or_eq_of_mem_set h).symm, λ h => ?_⟩
 rcases h with rfl | h
 ·exact List.mem_set hi x
 ·obtain ⟨j, hj, rfl⟩ := List.getElem_of_mem h
  have hne : i ≠ j := λ h => by subst h; omega
  exact List.mem_iff_getElem.2 ⟨j, by simpa using hj, List.getElem_set_ne hne _⟩
theorem zrW {m k : Nat} (h : k < m) {L : List Int} {i : Nat} (hi : i < L.length) (e : L[i] < 0) : splice (bk m L) k [AV.v (.bool true)] = bk m (L.set i (k : Int)) := by
 show (bk m L).set k _ = _
 refine List.ext_getElem (by simp [bk]) λ j h1 h2 => ?_
 have hm : (j : Int) ∈ L.set i (k : Int) ↔ (j : Int) = k \/ (j : Int) ∈ L := mem_set hi e (by omega)
 rw [List.getElem_set]
 by_cases hj : k = j
 ·subst hj
  simp only [bk, List.getElem_map, List.getElem_range, if_true]
  rw [decide_eq_true (hm.2 (.inl rfl))]
 ·have hm' : (j : Int) ∈ L.set i (k : Int) ↔ (j : Int) ∈ L := by rw [hm]; exact ⟨λ h => h.resolve_left (by omega), .inr⟩
  simp only [bk, List.getElem_map, List.getElem_range, hj, if_false, hm']
theorem znG (L : List Int) : zp ((ic L).take (L.length * 1)) 1 L.length = zg L := by
 rw [Nat.mul_one, List.take_of_length_le (by rw [zcM]; exact Nat.le_refl _)]
 induction L with
 | nil => rfl
 | cons x L ih =>
  show _ :: _ = _ :: _
  congr 1
theorem zr6 {l : LSpec} {fit : Nat -> Nat -> Prop} {m i : Nat} {L : List Int} (st : Nat -> l.X) (fin : List Int -> l.Y) (hi : i < L.length) (e : L[i] = -1) (hm : m < 600) (h0 : ∀ Lf : l.X -> Option l.Y, l.b (st m) l.Y Lf some = some (fin L)) (hs : ∀ k, k < m -> ∀ Lf : l.X -> Option l.Y, (¬ ((k : Int) ∉ L /\ fit i k) /\ l.b (st k) l.Y Lf some = Lf (st (k + 1))) \/ (((k : Int) ∉ L /\ fit i k) /\ l.b (st k) l.Y Lf some = some (fin (L.set i (k : Int))))) : l.L 600 (st 0) = some (fin (jW fit m i L)) := by
 have hg : ¬ 0 <= L.getD i 0 := by rw [JH _ hi]; omega
 unfold jW
 rw [if_neg hg]
 rcases zbH (p := λ k => ¬ ((k : Int) ∉ L /\ fit i k)) st (fin L) (λ k => fin (L.set i (k : Int))) h0 (λ k hk Lf => (hs k hk Lf).imp id λ h => ⟨λ g => g h.1, h.2⟩) m 0 600 (by omega) hm with ⟨g1, g2⟩ | ⟨j, g1, g2, g3, g4, g5⟩
 ·rw [g2, ze8 λ k hk => g1 k (Nat.zero_le _) hk]
  rw [<- e, List.set_getElem_self]
 ·rw [g5, zhs g2 (Classical.byContradiction g3) λ k hk => g4 k (Nat.zero_le _) hk]
section
variable {C : qC} (hC : CG mxT 100 500 C) {A : List RT0} (hA : A.length <= 100) (hpk : ∀ a ∈ A, jj a)
include hC hA hpk
theorem zCO (i : Nat) (hi : i < C.length) (L : List Int) (hl : L.length = C.length) (e : ∀ h : i < L.length, L[i] = -1) : zmC 600 (zj C, A.map zl, (i : Int), (C.length : Int), (i : Int), (A.length : Int), 0, zj C, C.length, A.map zl, A.length, ic L, bk A.length L, C[i].map zo) = some (zj C, (C.length : Int), (i : Int), zj C, C.length, A.map zl, A.length, ic (jW (zdg C A) A.length i L), bk A.length (jW (zdg C A) A.length i L)) := by
 have hle := hC.le
 have hx := hC.xs i hi
 have hla := zi1 C[i] hx.ne (by have := hx.le; omega)
 have hiL : i < L.length := by omega
 have e := e hiL
 have _ := hpk
 refine zr6 (l := zaJ 600) (λ k => (zj C, A.map zl, (i : Int), (C.length : Int), (i : Int), (A.length : Int), (k : Int), zj C, C.length, A.map zl, A.length, ic L, bk A.length L, C[i].map zo)) (λ M => (zj C, (C.length : Int), (i : Int), zj C, C.length, A.map zl, A.length, ic M, bk A.length M)) hiL e (by omega) (λ Lf => ?_) λ k hk Lf => ?_
 ·have e2 := ltF A.length A.length (by omega)
  simp only [zaJ, e2, zt, zD]
 ·have e2 := ltT k A.length (by omega)
  have h0 := nnI k
  have h1 : (k : Int) < (A.length : Int) := by omega
  have h2 := nnI i
  have h3 : (i : Int) < (C.length : Int) := by omega
  have b1 : i + 1 <= (ic L).length := by rw [zcM]; omega
  have b2 : k + 1 <= (bk A.length L).length := by rw [znc]; omega
  have hb := znb hk L
  simp only [zaJ, e2, h0, h1, and_self, if_true, Int.toNat_natCast, ze9 A k hk, Zh, Nat.zero_add, Nat.mul_one, hb]
  by_cases hm : (k : Int) ∈ L
  ·simp only [hm, decide_true, Bool.not_true, zt, zD, Zk k (by omega)]
   exact .inl ⟨λ h => h.1 trivial, rfl⟩
  ·simp only [hm, decide_false, Bool.not_false, hla]
   obtain ⟨b, q1, q2⟩ : ∃ b, zx7 600 (zm (C[i].getLast hx.ne), A[k]) = some b /\ (b = true ↔ zdg C A i k) := ⟨eqP (nmE (evV (C[i].getLast hx.ne))) (nmE A[k]), rfl, λ h => ⟨hk, by rw [zhy hi hx.ne]; exact znp h⟩, λ ⟨_, h⟩ => by rw [zhy hi hx.ne] at h; rw [h]; exact Jf _⟩
   cases b with
   | false =>
    simp only [q1, zt, zD, Zk k (by omega)]
    exact .inl ⟨λ h => (by cases q2.2 h.2), rfl⟩
   | true =>
    simp only [q1, h2, h3, and_self, if_true, Nat.zero_add, Nat.mul_one, b1, b2, znH, zt, zrW hk hiL (show L[i] < 0 by omega), zD]
    exact .inr ⟨⟨λ h => h, q2.1 rfl⟩, rfl⟩
theorem zzi (L : List Int) (hl : L.length = C.length) (hr : Rg A.length L) : ztN 600 (zj C, C.length, A.map zl, A.length, ic L, bk A.length L) = some (zj C, C.length, A.map zl, A.length, ic (J0 (zdg C A) A.length C.length L), bk A.length (J0 (zdg C A) A.length C.length L)) /\ Rg A.length (J0 (zdg C A) A.length C.length L) /\ (J0 (zdg C A) A.length C.length L).length = C.length := by
 have hle := hC.le
 have := zcV (l := zdU 600) (S := List Int) (n := C.length) (λ k L => L.length = C.length /\ Rg A.length L) (λ i L => jW (zdg C A) A.length i L) (λ k L => (zj C, (C.length : Int), (k : Int), zj C, C.length, A.map zl, A.length, ic L, bk A.length L)) (λ L => (zj C, C.length, A.map zl, A.length, ic L, bk A.length L)) (λ L _ Lf => by
  have e2 := ltF C.length C.length (by omega)
  simp only [zdU, e2, zt, zD]) (λ k L hk hR Lf => by
  obtain ⟨hl, hr⟩ := hR
  have e2 := ltT k C.length (by omega)
  have h0 := nnI k
  have h1 : (k : Int) < (C.length : Int) := by omega
  have hkL : k < L.length := by omega
  obtain ⟨s1, s2⟩ := zfs (fit := zdg C A) (i := k) hr
  refine ⟨⟨by rw [s2]; exact hl, s1⟩, ?_⟩
  have hx := hC.xs k hk
  have hne := List.length_pos_iff.2 hx.ne
  have n1 : ((C[k].length : Int) == 0) = false := by rw [beq_eq_false_iff_ne]; omega
  simp only [zdU, e2, h0, h1, and_self, if_true, Int.toNat_natCast, zC C k hk, rd6, Nat.zero_add, Nat.mul_one, zcL L k hkL, zt, zD, List.length_map, n1, Zk k (by omega)]
  by_cases hc : L[k] >= 0
  ·rw [decide_eq_true hc]
   have : jW (zdg C A) A.length k L = L := if_pos (by rw [JH _ hkL]; exact hc)
   rw [this]
   rfl
  ·have hr1 := (hr _ (List.getElem_mem hkL)).1
   rw [decide_eq_false hc]
   simp only [zCO hC hA hpk k hk L hl λ h => by omega, zt, zD, Zk k (by omega)]
   rfl) C.length 0 600 L (by omega) (by omega) ⟨hl, hr⟩
 obtain ⟨s', e, ⟨h1, h2⟩, h3⟩ := this
 rw [e] at h1 h2 h3
 refine ⟨?_, h2, h1⟩
 replace h3 : zrG 600 (zj C, (C.length : Int), 0, zj C, C.length, A.map zl, A.length, ic L, bk A.length L) = _ := h3
 simp only [ztN, FSpec.d, ztP, zq, zt, zD, h3]
 rfl
theorem zzh (i : Nat) (hi : i < C.length) (L : List Int) (hl : L.length = C.length) (e : ∀ h : i < L.length, L[i] = -1) : zin 600 (zj C, A.map zl, (i : Int), (C.length : Int), (i : Int), (A.length : Int), 0, zj C, C.length, A.map zl, A.length, ic L, bk A.length L, C[i].map zo) = some (zj C, (C.length : Int), (i : Int), zj C, C.length, A.map zl, A.length, ic (jW (zdh C A) A.length i L), bk A.length (jW (zdh C A) A.length i L)) := by
 have hle := hC.le
 have hx := hC.xs i hi
 have hla := zi1 C[i] hx.ne (by have := hx.le; omega)
 have hiL : i < L.length := by omega
 have e := e hiL
 have _ := hpk
 refine zr6 (l := Jv 600) (λ k => (zj C, A.map zl, (i : Int), (C.length : Int), (i : Int), (A.length : Int), (k : Int), zj C, C.length, A.map zl, A.length, ic L, bk A.length L, C[i].map zo)) (λ M => (zj C, (C.length : Int), (i : Int), zj C, C.length, A.map zl, A.length, ic M, bk A.length M)) hiL e (by omega) (λ Lf => ?_) λ k hk Lf => ?_
 ·have e2 := ltF A.length A.length (by omega)
  simp only [Jv, e2, zt, zD]
 ·have e2 := ltT k A.length (by omega)
  have h0 := nnI k
  have h1 : (k : Int) < (A.length : Int) := by omega
  have h2 := nnI i
  have h3 : (i : Int) < (C.length : Int) := by omega
  have b1 : i + 1 <= (ic L).length := by rw [zcM]; omega
  have b2 : k + 1 <= (bk A.length L).length := by rw [znc]; omega
  have hb := znb hk L
  simp only [Jv, e2, h0, h1, and_self, if_true, Int.toNat_natCast, ze9 A k hk, Zh, Nat.zero_add, Nat.mul_one, hb]
  by_cases hm : (k : Int) ∈ L
  ·simp only [hm, decide_true, Bool.not_true, zt, zD, Zk k (by omega)]
   exact .inl ⟨λ h => h.1 trivial, rfl⟩
  ·simp only [hm, decide_false, Bool.not_false, hla]
   obtain ⟨b, q1, q2⟩ : ∃ b, zo9 600 (zm (C[i].getLast hx.ne), A[k]) = some b /\ (b = true ↔ zdh C A i k) := by
    obtain ⟨p1, p2⟩ := zvf hx.last.ev.pk
    obtain ⟨p3, p4⟩ := zvf (hpk A[k] (List.getElem_mem _))
    obtain ⟨b, q1, q2⟩ := zoh _ _ (evV (C[i].getLast hx.ne)) A[k] p2 p4 (by omega) (by omega)
    exact ⟨b, q1, λ h => ⟨hk, by rw [zhy hi hx.ne]; exact q2.1 h⟩, λ ⟨_, h⟩ => q2.2 (by rw [zhy hi hx.ne] at h; exact h)⟩
   cases b with
   | false =>
    simp only [q1, zt, zD, Zk k (by omega)]
    exact .inl ⟨λ h => (by cases q2.2 h.2), rfl⟩
   | true =>
    simp only [q1, h2, h3, and_self, if_true, Nat.zero_add, Nat.mul_one, b1, b2, znH, zt, zrW hk hiL (show L[i] < 0 by omega), zD]
    exact .inr ⟨⟨λ h => h, q2.1 rfl⟩, rfl⟩
theorem zuE (L : List Int) (hl : L.length = C.length) (hr : Rg A.length L) : zmF 600 (zj C, C.length, A.map zl, A.length, ic L, bk A.length L) = some (zj C, C.length, A.map zl, A.length, ic (J0 (zdh C A) A.length C.length L), bk A.length (J0 (zdh C A) A.length C.length L)) /\ Rg A.length (J0 (zdh C A) A.length C.length L) /\ (J0 (zdh C A) A.length C.length L).length = C.length := by
 have hle := hC.le
 have := zcV (l := zaK 600) (S := List Int) (n := C.length) (λ k L => L.length = C.length /\ Rg A.length L) (λ i L => jW (zdh C A) A.length i L) (λ k L => (zj C, (C.length : Int), (k : Int), zj C, C.length, A.map zl, A.length, ic L, bk A.length L)) (λ L => (zj C, C.length, A.map zl, A.length, ic L, bk A.length L)) (λ L _ Lf => by
  have e2 := ltF C.length C.length (by omega)
  simp only [zaK, e2, zt, zD]) (λ k L hk hR Lf => by
  obtain ⟨hl, hr⟩ := hR
  have e2 := ltT k C.length (by omega)
  have h0 := nnI k
  have h1 : (k : Int) < (C.length : Int) := by omega
  have hkL : k < L.length := by omega
  obtain ⟨s1, s2⟩ := zfs (fit := zdh C A) (i := k) hr
  refine ⟨⟨by rw [s2]; exact hl, s1⟩, ?_⟩
  have hx := hC.xs k hk
  have hne := List.length_pos_iff.2 hx.ne
  have n1 : ((C[k].length : Int) == 0) = false := by rw [beq_eq_false_iff_ne]; omega
  simp only [zaK, e2, h0, h1, and_self, if_true, Int.toNat_natCast, zC C k hk, rd6, Nat.zero_add, Nat.mul_one, zcL L k hkL, zt, zD, List.length_map, n1, Zk k (by omega)]
  by_cases hc : L[k] >= 0
  ·rw [decide_eq_true hc]
   have : jW (zdh C A) A.length k L = L := if_pos (by rw [JH _ hkL]; exact hc)
   rw [this]
   rfl
  ·have hr1 := (hr _ (List.getElem_mem hkL)).1
   rw [decide_eq_false hc]
   simp only [zzh hC hA hpk k hk L hl λ h => by omega, zt, zD, Zk k (by omega)]
   rfl) C.length 0 600 L (by omega) (by omega) ⟨hl, hr⟩
 obtain ⟨s', e, ⟨h1, h2⟩, h3⟩ := this
 rw [e] at h1 h2 h3
 refine ⟨?_, h2, h1⟩
 replace h3 : zmG 600 (zj C, (C.length : Int), 0, zj C, C.length, A.map zl, A.length, ic L, bk A.length L) = _ := h3
 simp only [zmF, FSpec.d, zmI, zq, zt, zD, h3]
 rfl
theorem zr5 (hE : EvsG A) (h63 : C.length <= 63) : zlM 600 (zj C, A.map zl) = some (zg (zaq C A)) := by
 have hle := hC.le
 have hr := zz6 (n := C.length) (by omega)
 have rg0 : Rg A.length (List.replicate C.length (-1)) := λ x hx => by rw [(List.mem_replicate.1 hx).2]; omega
 obtain ⟨a1, a2, a3⟩ := zzi hC hA hpk (List.replicate C.length (-1)) (by simp) rg0
 obtain ⟨b1, b2, b3⟩ := zuE hC hA hpk _ a3 a2
 have hp : J0 (zdg C A) A.length C.length (List.replicate C.length (-1)) = (List.range' 0 C.length).foldl (λ L i => L ++ [zi9 C A i L]) [] := zzJ hE C.length 0 [] rfl
 rw [hp] at b1 b2 b3 a1
 have c1 : (0 <= (A.length : Int) /\ (A.length : Int) <= (A.length : Int) /\ (A.length : Int).toNat * 1 <= zd) = True := by unfold zd; simp; omega
 have c2 : C.length * 1 <= (ic (zaq C A)).length := by rw [zcM]; show _ <= (J0 _ _ _ _).length; omega
 have c3 := znG (zaq C A)
 rw [show (zaq C A).length = C.length from b3] at c3
 have c4 : List.replicate A.length (AV.v (.bool false)) = bk A.length (List.replicate C.length (-1)) := by
  refine List.ext_getElem (by simp [bk]) λ j h1 h2 => ?_
  have : ¬ (j : Int) ∈ List.replicate C.length (-1 : Int) := λ h => by have := List.eq_of_mem_replicate h; omega
  simp only [bk, List.getElem_replicate, List.getElem_map, List.getElem_range, this, decide_false]
 simp only [zlM, FSpec.d, zs0, zq, hr, List.length_map]
 rw [if_pos (of_eq_true c1)]
 simp only [Int.toNat_natCast, c4, zt, zD, a1, b1]
 exact (if_pos c2).trans (by rw [<- c3]; rfl)
end
end
end Go.Proofs.YthdgnfcbehcplaaGreatDoor
