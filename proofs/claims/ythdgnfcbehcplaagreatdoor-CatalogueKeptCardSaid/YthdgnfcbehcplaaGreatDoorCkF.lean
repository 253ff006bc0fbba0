/- Several texts as one (written by pack.py). -/
import Derived.Test.YthdgnfcbehcplaaGreatDoorCkE
import Derived.Test.YthdgnfcbehcplaaGreatDoorRows
import Derived.LaidMore
import Derived.Lay
import Derived.LaidLaws
import Derived.MakeChecks
import Derived.Stop.LaidErr
import Derived.Lib.LaidTab
import Derived.OpenShut
set_option linter.unusedVariables false
set_option linter.unusedSimpArgs false
set_option linter.unnecessarySimpa false
section
namespace Go.Proofs.YthdgnfcbehcplaaGreatDoor
theorem Kd6.comp {k : Int} (h : Kd6 k) : (k == 1 || k == 2) = true ↔ (k = 1 \/ k = 2) := by simp
theorem zvJ {T : Int} {n i : Nat} {v : RT7} (hT : T <= 18014398509481984) (h : VG T n i v) : zyv 600 (v, (i : Int), (n : Int)) = some true := by
 obtain ⟨hk, h0, hT', hb1, hb2, hi1, hi2, he⟩ := h
 obtain ⟨k1, a1, b1, i1, e1⟩ := v
 simp only [kdV, atV, byV, inV, evV] at hk h0 hT' hb1 hb2 hi1 hi2 he
 have c1 : decide (k1 < 1) = false := by rw [decide_eq_false_iff_not]; have := hk.lt; omega
 have c2 : decide (k1 > 6) = false := by rw [decide_eq_false_iff_not]; have := hk.lt; omega
 have c3 : decide (a1 < 0) = false := dF (by omega)
 have c4 : decide (a1 > 18014398509481984) = false := dF (by omega)
 have c5 : zls 600 (zw (k1, a1, b1, i1, e1)) = some true := he.pv'
 have c6 : 0 <= k1 /\ k1 < 7 := ⟨hk.lt.1, hk.lt.2.1⟩
 have c7 := zvP hk
 simp only [zyv, FSpec.d, zk7]
 simp only [c1, c2, c3, c4, c5, Bool.not_true, c6, and_self, if_true, c7]
 have hin : ∀ (r : Bool), r = false -> True := fun _ _ => trivial
 by_cases h12 : k1 = 1 \/ k1 = 2
 ·have d1 : (k1 == 1 || k1 == 2) = true := hk.comp.2 h12
  have d2 : ((nob).toList == (⟨#[]⟩ : ByteArray).toList) = true := by kernel_rfl
  have d3 : (k1 == 5) = false := by simp; omega
  have d4 : (i1 == 0) = true := by simp [hi1 (by omega)]
  rw [hb1 h12]
  simp only [d1, d2, Bool.not_true, d3, d4]
 ·have d1 : (k1 == 1 || k1 == 2) = false := by
   cases hc : (k1 == 1 || k1 == 2) with
   | false => rfl
   | true => exact absurd (hk.comp.1 hc) h12
  have d2 := (zjQ (hb2 h12)).2.1
  simp only [d1, d2, Bool.not_true, Bool.not_false]
  by_cases h5 : k1 = 5
  ·obtain ⟨p1, p2, p3⟩ := hi2 h5
   have d3 : (k1 == 5) = true := by simp [h5]
   have d4 : decide (i1 >= 0) = true := dT (by omega)
   have d5 : decide (i1 < (n : Int)) = true := dT (by omega)
   have d6 : (i1 != (i : Int)) = true := by simp [p3]
   simp only [d3, d4, d5, d6]
  ·have d3 : (k1 == 5) = false := by simp [h5]
   have d4 : (i1 == 0) = true := by simp [hi1 h5]
   simp only [d3, d4]
theorem zqV {T : Int} {m e : Nat} {C : List (List RT7)} (hT : T <= 18014398509481984) (he : e <= 500) (hm : m <= 100) (hC : CG T m e C) (i : Nat) (hi : i < C.length) : ∀ (d k f : Nat), k + d = C[i].length -> d < f -> (ZS 600).L f (zD C, C[i].map zK, (i : Int), (C.length : Int), (i : Int), (C[i].length : Int), (k : Int), zD C, C[i].map zK) = some (.inr (zD C, (C.length : Int), (i : Int), zD C)) := by
 have h := hC.xs i hi
 have hle := hC.le
 have hxl := h.le
 intro d
 induction d with
 | zero =>
  intro k f hk hf
  obtain ⟨f, rfl⟩ := pS hf
  show (ZS 600).b _ _ ((ZS 600).L f) some = _
  have e2 : decide ((k : Int) < (C[i].length : Int)) = false := dF (by omega)
  simp only [ZS]
  simp only [e2]
 | succ d ih =>
  intro k f hk hf
  obtain ⟨f, rfl⟩ := pS hf
  have r1 := ih (k + 1) f (by omega) (by omega)
  show (ZS 600).b _ _ ((ZS 600).L f) some = _
  generalize (ZS 600).L f = Lf at r1 |-
  obtain ⟨x, hx⟩ : ∃ x, x = C[i] := ⟨_, rfl⟩
  rw [<- hx] at h hxl hk r1 |-
  have hkl : k < x.length := by omega
  have e2 : decide ((k : Int) < (x.length : Int)) = true := dT (by omega)
  have h0 : 0 <= (k : Int) := by omega
  have hv := h.vs k hkl
  have hs := zvJ hT hv
  have n1 := zp (show k < 1000000 by omega)
  simp only [ZS]
  simp only [e2, h0, if_true, Int.toNat_natCast, zqs x k hkl, rd7, zS, hs, Bool.not_true, n1]
  by_cases hk0 : k = 0
  ·subst hk0
   have d6 : (((0 : Nat) : Int) == 0) = true := by decide
   simp only [d6]
   exact r1
  ·have d6 : ((k : Int) == 0) = false := by simp [hk0]
   obtain ⟨k', rfl⟩ : ∃ k', k = k' + 1 := ⟨k - 1, by omega⟩
   obtain ⟨s1, s2, s3⟩ := h.st k' hkl
   have hv' := h.vs k' (by omega)
   have d7 : i64 (((k' + 1 : Nat) : Int) - 1) = (k' : Int) := by rw [Zr (by omega)]; omega
   have d8 : decide (x[k' + 1].2.1 < x[k'].2.1) = false := by rw [decide_eq_false_iff_not]; simp only [atV] at s1; omega
   have h0' : 0 <= (k' : Int) := by omega
   have q1 : 0 <= x[k' + 1].1 /\ x[k' + 1].1 < 7 := ⟨hv.kd.lt.1, hv.kd.lt.2.1⟩
   have q2 : 0 <= x[k'].1 /\ x[k'].1 < 7 := ⟨hv'.kd.lt.1, hv'.kd.lt.2.1⟩
   have t1 := zz4 hv.kd hv'.kd
   have t2 := zjY hv.kd
   simp only [kdV] at t1 t2 s2
   rw [s2] at t1
   simp only [d6, d7, h0', if_true, Int.toNat_natCast, zqs x k' (by omega), rd7, d8, q1, q2, and_self, t1, Bool.not_true, t2]
   cases hkp : za0 x[k' + 1].1 with
   | false => exact r1
   | true =>
    have s4 := s3 hkp
    obtain ⟨b, w1, w2⟩ := zjy (evV x[k' + 1]) (evV x[k']) hv.ev.pk hv'.ev.pk
    rw [w2.2 s4.symm] at w1
    replace w1 : zk4 600 (zw x[k' + 1], zw x[k']) = some true := w1
    simp only [w1, Bool.not_true]
    exact r1
theorem zl2 {T : Int} {m e : Nat} {C : List (List RT7)} (hT : T <= 18014398509481984) (he : e <= 500) (hm : m <= 100) (hC : CG T m e C) : ∀ (d k f : Nat), k + d = C.length -> d < f -> (jD 600).L f (zD C, (C.length : Int), (k : Int), zD C) = some (.inr ()) := by
 have hle := hC.le
 intro d
 induction d with
 | zero =>
  intro k f hk hf
  obtain ⟨f, rfl⟩ := pS hf
  show (jD 600).b _ _ ((jD 600).L f) some = _
  have e2 : decide ((k : Int) < (C.length : Int)) = false := dF (by omega)
  simp only [jD]
  simp only [e2]
 | succ d ih =>
  intro k f hk hf
  obtain ⟨f, rfl⟩ := pS hf
  have r1 := ih (k + 1) f (by omega) (by omega)
  have hkl : k < C.length := by omega
  have h := hC.xs k hkl
  have hp := h.pos
  have hxl := h.le
  have r2 := zqV hT he hm hC k hkl C[k].length 0 600 (by omega) (by omega)
  replace r2 : (ZS 600).L 600 (zD C, C[k].map zK, (k : Int), (C.length : Int), (k : Int), (C[k].length : Int), 0, zD C, C[k].map zK) = _ := r2
  show (jD 600).b _ _ ((jD 600).L f) some = _
  generalize (jD 600).L f = Lf at r1 |-
  have e2 : decide ((k : Int) < (C.length : Int)) = true := dT (by omega)
  have h0 : 0 <= (k : Int) := by omega
  have n1 := zp (show k < 1000000 by omega)
  have c1 : decide ((C[k].length : Int) < 1) = false := dF (by omega)
  have c2 : decide ((C[k].length : Int) > 100) = false := dF (by omega)
  have c3 : (C[k].map zK)[(0 : Int).toNat]? = some (zK C[k][0]) := zqs C[k] 0 hp
  have c4 : ((zK C[k][0]).drop 0)[0]? = some (.v (.int .i64 C[k][0].1)) := rfl
  have c5 : (C[k][0].1 != 1) = false := by have := h.hd hp; simp only [kdV] at this; simp [this]
  have c6 : (0 : Int) <= 0 := by omega
  simp only [jD]
  simp only [e2, h0, if_true, Int.toNat_natCast, zV C k hkl, rd6, List.length_map, c1, c2, c6, c3, c4, c5, znO, r2, n1]
  exact r1
theorem zfF {T : Int} {m e : Nat} {C : List (List RT7)} (hT : T <= 18014398509481984) (he : e <= 500) (hm : m <= 100) (h : CG T m e C) : zcZ 600 (zD C) = some true := by
 have hle := h.le
 have h1 := zl2 hT he hm h C.length 0 600 (by omega) (by omega)
 replace h1 : (jD 600).L 600 (zD C, (C.length : Int), 0, zD C) = some (.inr ()) := h1
 have e2 : decide ((C.length : Int) > 500) = false := dF (by omega)
 simp only [zcZ, FSpec.d, zd3, zwq, zS, e2, h1]
theorem zqK {T : Int} {m e : Nat} {C : List (List RT7)} (he : e <= 500) (hm : m <= 100) (hC : CG T m e C) (i : Nat) (hi : i < C.length) : ∀ (d k f : Nat) (y : Int), k + d = C[i].length -> d < f -> y <= T -> ∃ y', (ZX 600).L f (zD C, C[i].map zK, y, (C.length : Int), (i : Int), (C[i].length : Int), (k : Int)) = some (zD C, y', (C.length : Int), (i : Int)) /\ y' <= T := by
 have h := hC.xs i hi
 have hle := hC.le
 have hxl := h.le
 intro d
 induction d with
 | zero =>
  intro k f y hk hf hy
  obtain ⟨f, rfl⟩ := pS hf
  refine ⟨y, ?_, hy⟩
  show (ZX 600).b _ _ ((ZX 600).L f) some = _
  have e2 : decide ((k : Int) < (C[i].length : Int)) = false := dF (by omega)
  simp only [ZX]
  simp only [e2]
 | succ d ih =>
  intro k f y hk hf hy
  obtain ⟨f, rfl⟩ := pS hf
  have hkl : k < C[i].length := by omega
  have hv := (h.vs k hkl).atT
  obtain ⟨y', r1, r2⟩ := ih (k + 1) f (if C[i][k].2.1 > y then C[i][k].2.1 else y) (by omega) (by omega) (by
   simp only [atV] at hv
   split <;> omega)
  refine ⟨y', ?_, r2⟩
  show (ZX 600).b _ _ ((ZX 600).L f) some = _
  generalize (ZX 600).L f = Lf at r1 |-
  have e2 : decide ((k : Int) < (C[i].length : Int)) = true := dT (by omega)
  have h0 : 0 <= (k : Int) := by omega
  simp only [ZX]
  simp only [e2, h0, if_true, Int.toNat_natCast, zqs C[i] k hkl, rd7, zp (show k < 1000000 by omega)]
  exact r1
theorem zlX {T : Int} {m e : Nat} {C : List (List RT7)} (he : e <= 500) (hm : m <= 100) (hC : CG T m e C) : ∀ (d k f : Nat) (y : Int), k + d = C.length -> d < f -> y <= T -> ∃ y' : Int, (jL 600).L f (zD C, y, (C.length : Int), (k : Int)) = some y' /\ y' <= T := by
 have hle := hC.le
 intro d
 induction d with
 | zero =>
  intro k f y hk hf hy
  obtain ⟨f, rfl⟩ := pS hf
  refine ⟨y, ?_, hy⟩
  show (jL 600).b _ _ ((jL 600).L f) some = _
  have e2 : decide ((k : Int) < (C.length : Int)) = false := dF (by omega)
  simp only [jL]
  simp only [e2]
 | succ d ih =>
  intro k f y hk hf hy
  obtain ⟨f, rfl⟩ := pS hf
  have hkl : k < C.length := by omega
  have hxl := (hC.xs k hkl).le
  obtain ⟨y1, a1, a2⟩ := zqK he hm hC k hkl C[k].length 0 600 y (by omega) (by omega) hy
  replace a1 : (ZX 600).L 600 (zD C, C[k].map zK, y, (C.length : Int), (k : Int), (C[k].length : Int), 0) = _ := a1
  obtain ⟨y', r1, r2⟩ := ih (k + 1) f y1 (by omega) (by omega) a2
  refine ⟨y', ?_, r2⟩
  show (jL 600).b _ _ ((jL 600).L f) some = _
  generalize (jL 600).L f = Lf at r1 |-
  have e2 : decide ((k : Int) < (C.length : Int)) = true := dT (by omega)
  have h0 : 0 <= (k : Int) := by omega
  simp only [jL]
  simp only [e2, h0, if_true, Int.toNat_natCast, zV C k hkl, rd6, List.length_map, zpN, a1, zp (show k < 1000000 by omega)]
  exact r1
theorem zj1 {T t : Int} {m e : Nat} {C : List (List RT7)} (he : e <= 500) (hm : m <= 100) (hC : CG T m e C) (hT : T <= t) (h0 : 0 <= t) (ht : t <= 18014398509481984) (hT0 : 0 <= T) : zsL 600 (zD C, t) = some 0 := by
 have hle := hC.le
 obtain ⟨y, h1, h2⟩ := zlX he hm hC C.length 0 600 0 (by omega) (by omega) hT0
 replace h1 : (jL 600).L 600 (zD C, 0, (C.length : Int), 0) = some y := h1
 have c1 : decide (t < 0) = false := dF (by omega)
 have c2 : decide (t > 18014398509481984) = false := dF (by omega)
 have c3 : decide (t < y) = false := dF (by omega)
 simp only [zsL, FSpec.d, zeb, c1, c2, c3, zBN, zeh, zw9, zS, h1]
theorem zCI (x : List (List AV)) (h : x.length <= 100000) : zuo 600 x = some x := by
 have hb : ((([] : List (List AV)).length + x.length) * 104 <= zh) = True := by unfold zh; simp; omega
 simp only [zuo, FSpec.d, zlx]
 cases x with
 | nil => simp only [hb, if_true]; exact if_pos rfl
 | cons a l => simp only [hb, if_true, List.nil_append]
theorem JC {e : RT0} (h : zaG e) : zcs 600 e = some e := by
 obtain ⟨P, h1, h2⟩ := h
 have hc : zuo 600 e.2.2.2.2.2.2.2.2.2.1 = some e.2.2.2.2.2.2.2.2.2.1 := zCI _ (by
  have : e.2.2.2.2.2.2.2.2.2.1 = P.map zy := h2
  rw [this]; simp; omega)
 simp only [zcs, FSpec.d, zk6, hc]
theorem zvw {T : Int} {m e : Nat} {C : List (List RT7)} (he : e <= 500) (hm : m <= 100) (hC : CG T m e C) (i : Nat) (hi : i < C.length) (X : List (List AV)) (N : Nat) (cs : List AV) (hcs : cs.map datF = cs) (j M : Nat) : ∀ (d k f : Nat), k + d = C[i].length -> d < f -> (Zt 600).L f ((C[i].take k).map zK, zD C, C[i].map zK, (C.length : Int), (i : Int), (C[i].length : Int), (k : Int), X, N, cs, j, M) = some (C[i].map zK, zD C, (C.length : Int), (i : Int), X, N, cs, j, M) := by
 have h := hC.xs i hi
 have hle := hC.le
 have hxl := h.le
 intro d
 induction d with
 | zero =>
  intro k f hk hf
  obtain ⟨f, rfl⟩ := pS hf
  show (Zt 600).b _ _ ((Zt 600).L f) some = _
  have e2 : decide ((k : Int) < (C[i].length : Int)) = false := dF (by omega)
  have e3 : C[i].take k = C[i] := List.take_of_length_le (by omega)
  simp only [Zt]
  simp only [e2, e3, hcs]
 | succ d ih =>
  intro k f hk hf
  obtain ⟨f, rfl⟩ := pS hf
  have hkl : k < C[i].length := by omega
  have r1 := ih (k + 1) f (by omega) (by omega)
  show (Zt 600).b _ _ ((Zt 600).L f) some = _
  generalize (Zt 600).L f = Lf at r1 |-
  have e2 : decide ((k : Int) < (C[i].length : Int)) = true := dT (by omega)
  have h0 : 0 <= (k : Int) := by omega
  have hc := JC (h.vs k hkl).ev.pk
  replace hc : zcs 600 (zw C[i][k]) = some (evV C[i][k]) := hc
  have b1 : (((C[i].take k).map zK).length + 1) * 288 <= zh := by unfold zh; simp; omega
  have e3 : (C[i].take (k + 1)).map zK = (C[i].take k).map zK ++ [zK C[i][k]] := by
   rw [<- List.take_append_getElem hkl, List.map_append]; rfl
  rw [e3] at r1
  simp only [Zt]
  simp only [e2, h0, if_true, Int.toNat_natCast, zqs C[i] k hkl, rd7, hc, hcs, zp (show k < 1000000 by omega), List.length_cons, List.length_nil, Nat.zero_add]
  exact (if_pos b1).trans r1
theorem zqO {T : Int} {m e : Nat} {C : List (List RT7)} (he : e <= 500) (hm : m <= 100) (hC : CG T m e C) (X : List (List AV)) : ∀ (d k f : Nat) (cs : List AV), k + d = C.length -> d < f -> FC (C.take k) 0 cs -> ∃ cs', (ZW 600).L f (zD C, (C.length : Int), (k : Int), X, k, cs, 0, k) = some (X, C.length, cs', 0, C.length) /\ FC C 0 cs' := by
 have hle := hC.le
 intro d
 induction d with
 | zero =>
  intro k f cs hk hf hc
  obtain ⟨f, rfl⟩ := pS hf
  obtain rfl : k = C.length := by omega
  rw [List.take_length] at hc
  refine ⟨cs, ?_, hc⟩
  show (ZW 600).b _ _ ((ZW 600).L f) some = _
  have e2 : decide ((C.length : Int) < (C.length : Int)) = false := dF (by omega)
  simp only [ZW]
  simp only [e2, hc.dF]
 | succ d ih =>
  intro k f cs hk hf hc
  obtain ⟨f, rfl⟩ := pS hf
  have hkl : k < C.length := by omega
  have hxl := (hC.xs k hkl).le
  have hn := hc.snoc C[k]
  have hlk : (C.take k).length = k := by simp; omega
  rw [hlk, List.take_append_getElem] at hn
  obtain ⟨cs', r1, r2⟩ := ih (k + 1) f _ (by omega) (by omega) hn
  have a1 := zvw he hm hC k hkl X k cs hc.dF 0 k C[k].length 0 600 (by omega) (by omega)
  replace a1 : (Zt 600).L 600 ([], zD C, C[k].map zK, (C.length : Int), (k : Int), (C[k].length : Int), 0, X, k, cs, 0, k) = _ := a1
  refine ⟨cs', ?_, r2⟩
  show (ZW 600).b _ _ ((ZW 600).L f) some = _
  generalize (ZW 600).L f = Lf at r1 |-
  have e2 : decide ((k : Int) < (C.length : Int)) = true := dT (by omega)
  have h0 : 0 <= (k : Int) := by omega
  have b2 : ((True /\ 0 <= k) /\ k * 1 <= cs.length /\ (k + 1) * 24 <= zh) = True := by rw [hc.1, hlk]; unfold zh; simp; omega
  simp only [ZW]
  simp only [e2, h0, if_true, Int.toNat_natCast, zV C k hkl, rd6, List.length_map, hc.dF, zi9, a1, b2, zp (show k < 1000000 by omega)]
  exact r1
theorem zxq {T : Int} {m e : Nat} {C : List (List RT7)} (he : e <= 500) (hm : m <= 100) (hC : CG T m e C) : ∃ cs, zi8 600 (zD C) = some (C.length, cs, 0, C.length) /\ FC C 0 cs := by
 have hle := hC.le
 obtain ⟨cs, h1, h2⟩ := zqO he hm hC [] C.length 0 600 [] (by omega) (by omega) (by simpa using FC.nil)
 refine ⟨cs, ?_, h2⟩
 replace h1 : (ZW 600).L 600 (zD C, (C.length : Int), 0, [], 0, [], 0, 0) = some ([], C.length, cs, 0, C.length) := h1
 simp only [zi8, FSpec.d, zaE, zoK, zS, h1, h2.dF]
end Go.Proofs.YthdgnfcbehcplaaGreatDoor
end
section
namespace Go.Proofs.YthdgnfcbehcplaaGreatDoor
theorem zu8 (X : List (List AV)) (i : Int) : zpD 600 (X, i) = some (decide (0 <= i /\ i < (X.length : Int))) := by
 simp only [zpD, FSpec.d, zeg]
 by_cases h : 0 <= i
 ·have e : decide (i >= 0) = true := dT (by omega)
  simp only [e]; simp [h]
 ·have e : decide (i >= 0) = false := dF (by omega)
  simp only [e]; simp [h]
def Ref (k to : Int) (id : Nat) (u : RT7) : Prop := (k = 5 /\ to = (id : Int)) \/ (k = 6 /\ jB (kdV u) = true)
theorem zy0 {k t : Int} {b : ByteArray} {to : Int} {e1 : RT0} (hs : Say k b to e1) (id : Nat) (X : List (List AV)) {L : RT7} (hL : Kd6 (kdV L)) : ∃ c, zhP 600 ((id : Int), X, (k, t, b, to, e1), [], L) = some ((id : Int), c, X, (k, t, b, to, e1), [], L) /\ (c = true ↔ Ref k to id L) := by
 have hu : ∀ y, (jx 600).b ((id : Int), X, (k, t, b, to, e1), [], L) _ ((jx 600).L 599) some = y -> zhP 600 ((id : Int), X, (k, t, b, to, e1), [], L) = y := fun y h => h
 have hop := zxD hL
 simp only [kdV] at hop
 rcases hs.kd with rfl | rfl | rfl | rfl
 ·exact ⟨false, hu _ (by kernel_rfl), by simp [Ref]⟩
 ·exact ⟨false, hu _ (by kernel_rfl), by simp [Ref]⟩
 ·by_cases c3 : to = (id : Int)
  ·refine ⟨true, hu _ ?_, by simp [Ref, c3]⟩
   have c4 : (to == (id : Int)) = true := by simp [c3]
   have c5 : ((5 : Int) == 5) = true := by decide
   simp only [jx]
   simp only [c4, c5]
  ·refine ⟨false, hu _ ?_, by simp [Ref, c3]⟩
   have c4 : (to == (id : Int)) = false := by simp [c3]
   have c5 : ((5 : Int) == 5) = true := by decide
   have c6 : ((5 : Int) == 6) = false := by decide
   simp only [jx]
   simp only [c4, c5, c6]
 ·refine ⟨jB (kdV L), hu _ ?_, by simp [Ref]⟩
  have c5 : ((6 : Int) == 5) = false := by decide
  have c6 : ((6 : Int) == 6) = true := by decide
  simp only [jx]
  simp only [c5, c6, hop]
theorem zB3 {T t : Int} {m e : Nat} {C : List (List RT7)} (hC : CG T m e C) (he : e <= 500) (hm : m < 100) (hT : T <= t) (hT0 : 0 <= T) (ht : t <= 18014398509481984) {k : Int} {b : ByteArray} {to : Int} {e1 : RT0} (hs : Say k b to e1) (id : Nat) : ∃ d y, Jy 600 (zD C, (id : Int), (k, t, b, to, e1)) = some (d, y) /\ ((y ≠ 0 /\ d = [] /\ ∀ (h : id < C.length) (hne : C[id] ≠ []), to < C.length -> y = 10 /\ Ref k to id (C[id].getLast hne)) \/ (y = 0 /\ ∃ (h : id < C.length) (hne : C[id] ≠ []), to < C.length /\ ¬ Ref k to id (C[id].getLast hne) /\ d = zD (C.set id (C[id] ++ [zh3 k t b to e1 (evV (C[id].getLast hne))])))) := by
 have hle := hC.le
 have hV := zfF (by omega) he (by omega) hC
 have hP := (zjQ hs.per).2.1
 have hTm := zj1 he (by omega) hC hT (by omega) ht hT0
 have ht0 : 0 <= t := by omega
 have h2 : zwA 600 ((id : Int), zD C, (k, t, b, to, e1), []) = some (.inr ((id : Int), zD C, (k, t, b, to, e1), [])) := by
  show (zaC 600).b _ _ ((zaC 600).L 599) some = _
  simp only [zaC]
  simp only [hV, hP, Bool.not_true]
  by_cases k3 : k = 3
  ·have c1 : (k == 3) = true := by simp [k3]
   have c2 : zls 600 (zw (k, t, b, to, e1)) = some true := (hs.ev k3).pv'
   simp only [c1, c2, Bool.not_true]
  ·have c1 : (k == 3) = false := by simp [k3]
   simp only [c1]
 have hex : ∀ i : Int, zpD 600 (zD C, i) = some (decide (0 <= i /\ i < (C.length : Int))) := fun i => by rw [zu8, zS]
 have h6 : (zi7 600 ((id : Int), zD C, (k, t, b, to, e1), []) = some (.inl ((id : Int), 6, zD C, (k, t, b, to, e1), [])) /\ ¬ (id < C.length /\ to < C.length)) \/ (zi7 600 ((id : Int), zD C, (k, t, b, to, e1), []) = some (.inr ((id : Int), zD C, (k, t, b, to, e1), [])) /\ id < C.length /\ to < C.length) := by
  have hu : ∀ y, (Jz 600).b ((id : Int), zD C, (k, t, b, to, e1), []) _ ((Jz 600).L 599) some = y -> zi7 600 ((id : Int), zD C, (k, t, b, to, e1), []) = y := fun y h => h
  by_cases c1 : id < C.length
  case neg =>
   refine .inl ⟨hu _ ?_, fun h => c1 h.1⟩
   have d1 : decide (0 <= (id : Int) /\ (id : Int) < (C.length : Int)) = false := dF (by omega)
   simp only [Jz]
   simp only [hex, d1, Bool.not_false]
  have d1 : decide (0 <= (id : Int) /\ (id : Int) < (C.length : Int)) = true := dT (by omega)
  by_cases k5 : k = 5
  ·have d2 : (k == 5) = true := by simp [k5]
   by_cases c2 : to < C.length
   ·refine .inr ⟨hu _ ?_, c1, c2⟩
    have d3 : decide (0 <= to /\ to < (C.length : Int)) = true := by rw [decide_eq_true_iff]; exact ⟨hs.to1, c2⟩
    simp only [Jz]
    simp only [hex, d1, d2, d3, Bool.not_true]
   ·refine .inl ⟨hu _ ?_, fun h => c2 h.2⟩
    have d3 : decide (0 <= to /\ to < (C.length : Int)) = false := by rw [decide_eq_false_iff_not]; exact fun h => c2 h.2
    simp only [Jz]
    simp only [hex, d1, d2, d3, Bool.not_true, Bool.not_false]
  ·refine .inr ⟨hu _ ?_, c1, by rw [hs.to0 k5]; omega⟩
   have d2 : (k == 5) = false := by simp [k5]
   simp only [Jz]
   simp only [hex, d1, d2, Bool.not_true]
 simp only [Jy, FSpec.d, zd8, h2]
 rcases h6 with ⟨h6, c1⟩ | ⟨h6, c1, c2⟩
 ·simp only [h6]
  exact ⟨_, _, rfl, .inl ⟨by decide, rfl, fun h _ h' => absurd ⟨h, h'⟩ c1⟩⟩
 have e0 : ((0 : Int) != 0) = false := by decide
 have h0 : 0 <= (id : Int) := by omega
 have hx := hC.xs id c1
 have hxl := hx.le
 have hla := zjI C[id] hx.ne (by omega)
 obtain ⟨L, hLd⟩ : ∃ L, L = C[id].getLast hx.ne := ⟨_, rfl⟩
 have hL := hx.last
 rw [<- hLd] at hla hL
 obtain ⟨c, h18, hc⟩ := zy0 (t := t) hs id (zD C) hL.kd
 simp only [h6, hTm, e0, h0, if_true, Int.toNat_natCast, zV C id c1, rd6, hla, h18]
 cases c with
 | true => exact ⟨_, _, rfl, .inl ⟨by decide, rfl, fun _ _ _ => ⟨rfl, by rw [<- hLd]; exact hc.1 rfl⟩⟩⟩
 | false =>
 have hnr : ¬ Ref k to id L := fun h => by have := hc.2 h; cases this
 have m1 : (((C[id].map zK).length : Int) == 100) = false := by simp; omega
 have hkd : Kd6 k := by have := hs.kd; unfold Kd6; omega
 have q7 : 0 <= k /\ k < 7 := ⟨hkd.lt.1, hkd.lt.2.1⟩
 have htk := zjY hkd
 obtain ⟨V, hVd⟩ : ∃ V, V = zh3 k t b to e1 (evV L) := ⟨_, rfl⟩
 have h27 : zou 600 ((id : Int), za0 k, zD C, (k, t, b, to, e1), [], L) = some ((id : Int), zD C, V, []) := by
  show (Jq 600).b _ _ ((Jq 600).L 599) some = _
  simp only [Jq]
  rw [hVd]
  cases hkk : za0 k with
  | true => simp only [zh3, hkk, if_true]
  | false => simp only [zh3, hkk, Bool.false_eq_true, if_false]
 have hVe : zcs 600 (zw V) = some (evV V) := JC (by
  rw [hVd]
  show zaG (if za0 k = true then _ else _)
  rcases hs.kd with rfl | rfl | rfl | rfl
  ·rw [if_neg (by decide)]; exact (hs.ev rfl).pk
  ·rw [if_pos (by decide)]; exact hL.ev.pk
  ·rw [if_pos (by decide)]; exact hL.ev.pk
  ·rw [if_pos (by decide)]; exact hL.ev.pk)
 obtain ⟨cs, q1, q2⟩ := zxq he (by omega) hC
 obtain ⟨tk, q3, _, q4⟩ := q2.2 id c1
 rw [q4 (Nat.zero_le _)] at q3
 have hI : (id : Int) < (C.length : Int) := by omega
 have b1 : ((C[id].map zK).length + [zK V].length) * 288 <= zh := by unfold zh; simp; omega
 have b2 : id + 1 <= cs.length := by rw [q2.1]; exact c1
 have b3' : ∀ q, C.length <= (splice cs id q).length := fun q => by rw [Zg, q2.1]; omega
 have hr : (C[id].map zK) ++ [zK V] = (C[id] ++ [V]).map zK := by simp
 have hch := q2.csp id (C[id] ++ [V])
 simp only [Nat.mul_one] at hch
 simp only [h0, if_true, Int.toNat_natCast, zV C id c1, zhv, zqG, m1, q7, and_self, htk, h27, hVe, q1]
 simp only [hI, h0, q2.dJ, Nat.zero_add, Nat.mul_one, Nat.add_zero, q3, c1, and_self, if_true, Nat.zero_le, b2]
 refine ⟨_, _, (if_pos b1).trans ((if_pos (b3' _)).trans rfl), .inr ⟨rfl, trivial, hx.ne, c2, by rw [<- hLd]; exact hnr, ?_⟩⟩
 rw [<- hLd, <- hVd, <- hch, <- hr]
theorem zB2 {T t : Int} {m e : Nat} {C : List (List RT7)} (hC : CG T m e C) (he : e <= 500) (hm : m < 100) (hT : T <= t) (hT0 : 0 <= T) (ht : t <= 18014398509481984) {k : Int} {b : ByteArray} {to : Int} {e1 : RT0} (hs : Say k b to e1) (id : Nat) (h : id < C.length) (hto : to < C.length) (hr : ¬ Ref k to id (C[id].getLast (hC.xs id h).ne)) : Jy 600 (zD C, (id : Int), (k, t, b, to, e1)) = some (zD (C.set id (C[id] ++ [zh3 k t b to e1 (evV (C[id].getLast (hC.xs id h).ne))])), 0) /\ CG t (m + 1) e (C.set id (C[id] ++ [zh3 k t b to e1 (evV (C[id].getLast (hC.xs id h).ne))])) := by
 obtain ⟨d, y, h1, h2⟩ := zB3 hC he hm hT hT0 ht hs id
 rcases h2 with ⟨_, _, h2⟩ | ⟨rfl, h2⟩
 ·exact absurd (h2 h (hC.xs id h).ne hto).2 hr
 ·obtain ⟨_, _, _, _, rfl⟩ := h2
  exact ⟨h1, hC.set h hT (hs.vg (hC.xs id h) hT hto fun hk ht => hr (.inl ⟨hk, ht⟩)) (hs.stp (hC.xs id h) hT fun hk => by
   cases ho : jB (kdV (C[id].getLast (hC.xs id h).ne)) with
   | false => rfl
   | true => exact absurd (.inr ⟨hk, ho⟩) hr)⟩
theorem zvD (C : List (List RT7)) (id : Int) (b : ByteArray) (x : RT0) (t : Int) : zrs 600 (zD C, id, b, x, t) = Jy 600 (zD C, id, (3, t, b, 0, x)) := by
 show (match Jy 600 (zD C, id, (3, t, b, 0, x)) with | some y1 => some y1 | none => none) = _
 cases Jy 600 (zD C, id, (3, t, b, 0, x)) <;> rfl
theorem zu4 (C : List (List RT7)) (id : Int) (b : ByteArray) (t : Int) : zxU 600 (zD C, id, b, t) = Jy 600 (zD C, id, (4, t, b, 0, zE)) := by
 show (match Jy 600 (zD C, id, (4, t, b, 0, zE)) with | some y1 => some y1 | none => none) = _
 cases Jy 600 (zD C, id, (4, t, b, 0, zE)) <;> rfl
theorem zzv (C : List (List RT7)) (id to : Int) (b : ByteArray) (t : Int) : zxY 600 (zD C, id, to, b, t) = Jy 600 (zD C, id, (5, t, b, to, zE)) := by
 show (match Jy 600 (zD C, id, (5, t, b, to, zE)) with | some y1 => some y1 | none => none) = _
 cases Jy 600 (zD C, id, (5, t, b, to, zE)) <;> rfl
theorem zqX (C : List (List RT7)) (id : Int) (b : ByteArray) (t : Int) : zx2 600 (zD C, id, b, t) = Jy 600 (zD C, id, (6, t, b, 0, zE)) := by
 show (match Jy 600 (zD C, id, (6, t, b, 0, zE)) with | some y1 => some y1 | none => none) = _
 cases Jy 600 (zD C, id, (6, t, b, 0, zE)) <;> rfl
end Go.Proofs.YthdgnfcbehcplaaGreatDoor
end
section
namespace Go.Proofs.YthdgnfcbehcplaaGreatDoor
theorem zCQ : ∀ n : Nat, n < 64 -> zwX 600 ([[AV.v (.int .i64 (-1))]], (n : Int)) = some (n, ic (List.replicate n (-1)))
 | 0, _ => by kernel_rfl
 | 1, _ => by kernel_rfl
 | 2, _ => by kernel_rfl
 | 3, _ => by kernel_rfl
 | 4, _ => by kernel_rfl
 | 5, _ => by kernel_rfl
 | 6, _ => by kernel_rfl
 | 7, _ => by kernel_rfl
 | 8, _ => by kernel_rfl
 | 9, _ => by kernel_rfl
 | 10, _ => by kernel_rfl
 | 11, _ => by kernel_rfl
 | 12, _ => by kernel_rfl
 | 13, _ => by kernel_rfl
 | 14, _ => by kernel_rfl
 | 15, _ => by kernel_rfl
 | 16, _ => by kernel_rfl
 | 17, _ => by kernel_rfl
 | 18, _ => by kernel_rfl
 | 19, _ => by kernel_rfl
 | 20, _ => by kernel_rfl
 | 21, _ => by kernel_rfl
 | 22, _ => by kernel_rfl
 | 23, _ => by kernel_rfl
 | 24, _ => by kernel_rfl
 | 25, _ => by kernel_rfl
 | 26, _ => by kernel_rfl
 | 27, _ => by kernel_rfl
 | 28, _ => by kernel_rfl
 | 29, _ => by kernel_rfl
 | 30, _ => by kernel_rfl
 | 31, _ => by kernel_rfl
 | 32, _ => by kernel_rfl
 | 33, _ => by kernel_rfl
 | 34, _ => by kernel_rfl
 | 35, _ => by kernel_rfl
 | 36, _ => by kernel_rfl
 | 37, _ => by kernel_rfl
 | 38, _ => by kernel_rfl
 | 39, _ => by kernel_rfl
 | 40, _ => by kernel_rfl
 | 41, _ => by kernel_rfl
 | 42, _ => by kernel_rfl
 | 43, _ => by kernel_rfl
 | 44, _ => by kernel_rfl
 | 45, _ => by kernel_rfl
 | 46, _ => by kernel_rfl
 | 47, _ => by kernel_rfl
 | 48, _ => by kernel_rfl
 | 49, _ => by kernel_rfl
 | 50, _ => by kernel_rfl
 | 51, _ => by kernel_rfl
 | 52, _ => by kernel_rfl
 | 53, _ => by kernel_rfl
 | 54, _ => by kernel_rfl
 | 55, _ => by kernel_rfl
 | 56, _ => by kernel_rfl
 | 57, _ => by kernel_rfl
 | 58, _ => by kernel_rfl
 | 59, _ => by kernel_rfl
 | 60, _ => by kernel_rfl
 | 61, _ => by kernel_rfl
 | 62, _ => by kernel_rfl
 | 63, _ => by kernel_rfl
 | n + 64, h => absurd h (by omega)
def bc (L : List Bool) : List AV := L.map fun x => AV.v (.bool x)
theorem zp9 (L : List Bool) : (bc L).length = L.length := by simp [bc]
theorem zb7 (L : List Bool) (k : Nat) (h : k < L.length) : (bc L)[k]? = some (AV.v (.bool L[k])) := by simp [bc, h]
theorem zW (L : List Bool) : (bc L).map dat0 = bc L := by simp only [bc, List.map_map]; rfl
theorem zqa (L : List Bool) (k : Nat) (y : Bool) : splice (bc L) k [AV.v (.bool y)] = bc (L.set k y) := by
 show (bc L).set k _ = _
 simp [bc, List.map_set]
theorem zxn (n : Nat) : List.replicate n (AV.v (.bool false)) = bc (List.replicate n false) := by simp [bc]
theorem zzm (L : List Int) : zL ((ic L).take (L.length * 1)) 1 L.length = zF L := by
 rw [Nat.mul_one, List.take_of_length_le (by rw [ze3]; exact Nat.le_refl _)]
 induction L with
 | nil => rfl
 | cons x L ih =>
  show _ :: _ = _ :: _
  congr 1
def Hit (M : RT0 -> RT0 -> Prop) (A : List RT0) (tk : List Bool) (a : RT0) (k j : Nat) : Prop := ∃ (h : j < A.length) (h' : j < tk.length), k <= j /\ tk[j] = false /\ M a A[j] /\ ∀ i (hi : i < A.length) (hi' : i < tk.length), k <= i -> i < j -> tk[i] = false -> ¬ M a A[i]
def zBZ (M : RT0 -> RT0 -> Prop) (A : List RT0) (tk : List Bool) (a : RT0) (k : Nat) : Prop := ∀ i (hi : i < A.length) (hi' : i < tk.length), k <= i -> tk[i] = false -> ¬ M a A[i]
def laE (x : List RT7) : Option RT0 := x.getLast?.map evV
inductive Pass (M : RT0 -> RT0 -> Prop) (C : List (List RT7)) (A : List RT0) : Nat -> List Int -> List Bool -> List Int -> List Bool -> Prop
 | done {k : Nat} {o : List Int} {t : List Bool} : C.length <= k -> Pass M C A k o t o t
 | skip {k : Nat} {o o' : List Int} {t t' : List Bool} : k < C.length -> (∀ h : k < o.length, 0 <= o[k]) -> Pass M C A (k + 1) o t o' t' -> Pass M C A k o t o' t'
 | hit {k j : Nat} {o o' : List Int} {t t' : List Bool} {a : RT0} (h : k < C.length) : (∀ h : k < o.length, o[k] < 0) -> laE C[k] = some a -> Hit M A t a 0 j -> Pass M C A (k + 1) (o.set k (j : Int)) (t.set j true) o' t' -> Pass M C A k o t o' t'
 | miss {k : Nat} {o o' : List Int} {t t' : List Bool} {a : RT0} (h : k < C.length) : (∀ h : k < o.length, o[k] < 0) -> laE C[k] = some a -> zBZ M A t a 0 -> Pass M C A (k + 1) o t o' t' -> Pass M C A k o t o' t'
theorem zjH {x : List RT7} (h : x ≠ []) : laE x = some (evV (x.getLast h)) := by
 simp [laE, List.getLast?_eq_some_getLast h]
def zei (a e : RT0) : Prop := nmE a = nmE e
def zfE (a e : RT0) : Prop := ∃ P Q : List RT1, pkE a = P.map zy /\ pkE e = Q.map zy /\ Com P Q
theorem zEQ {a e : RT0} (ha : zaG a) (he : zaG e) : ∃ b, zyL 600 (a, e) = some b /\ (b = true ↔ zei a e) := by
 refine ⟨eqP (nmE a) (nmE e), rfl, fun h => zxs h, fun h => ?_⟩
 unfold zei at h
 rw [h]; exact JZ _
theorem zER {a e : RT0} (ha : zaG a) (he : zaG e) : ∃ b, zpu 600 (a, e) = some b /\ (b = true ↔ zfE a e) := by
 obtain ⟨P, hP1, hP⟩ := ha
 obtain ⟨Q, hQ1, hQ⟩ := he
 obtain ⟨b, h1, h2⟩ := zq3 P Q a e hP hQ (by omega) (by omega)
 refine ⟨b, h1, h2.trans ⟨fun h => ⟨P, Q, hP, hQ, h⟩, fun ⟨P', Q', h3, h4, h5⟩ => ?_⟩⟩
 rw [hP] at h3
 rw [hQ] at h4
 rw [zcM h3, zcM h4]; exact h5
theorem zCG {T : Int} {m e : Nat} {C : List (List RT7)} (he : e <= 500) (hm : m <= 100) (hC : CG T m e C) (A : List RT0) (hA : A.length <= 100) (hpk : ∀ a ∈ A, zaG a) (i : Nat) (hi : i < C.length) (L : List Int) (hL : L.length = C.length) (t : List Bool) (ht : t.length = A.length) : ∀ (d k f : Nat), k + d = A.length -> d < f ->
  ∃ L' t', (Za 600).L f (zD C, A.map zB, (i : Int), (C.length : Int), (i : Int), (A.length : Int), (k : Int), zD C, C.length, A.map zB, A.length, ic L, bc t, C[i].map zK) = some (zD C, (C.length : Int), (i : Int), zD C, C.length, A.map zB, A.length, ic L', bc t') /\ ((∃ j, Hit zei A t (evV (C[i].getLast (hC.xs i hi).ne)) k j /\ L' = L.set i (j : Int) /\ t' = t.set j true) \/ (zBZ zei A t (evV (C[i].getLast (hC.xs i hi).ne)) k /\ L' = L /\ t' = t)) := by
 have hle := hC.le
 have hx := hC.xs i hi
 have hxl := hx.le
 have hla := zjI C[i] hx.ne (by omega)
 intro d
 induction d with
 | zero =>
  intro k f hk hf
  obtain ⟨f, rfl⟩ := pS hf
  refine ⟨L, t, ?_, .inr ⟨fun j h h' hk' => by omega, rfl, rfl⟩⟩
  show (Za 600).b _ _ ((Za 600).L f) some = _
  have e2 : decide ((k : Int) < (A.length : Int)) = false := dF (by omega)
  simp only [Za]
  simp only [e2, zG, zW]
 | succ d ih =>
  intro k f hk hf
  obtain ⟨f, rfl⟩ := pS hf
  have hkl : k < A.length := by omega
  have hkt : k < t.length := by omega
  have e2 : decide ((k : Int) < (A.length : Int)) = true := dT (by omega)
  have h0 : 0 <= (k : Int) := by omega
  have h1 : (k : Int) < (A.length : Int) := by omega
  have hi0 : 0 <= (i : Int) := by omega
  have hi1 : (i : Int) < (C.length : Int) := by omega
  have n1 := zp (show k < 1000000 by omega)
  obtain ⟨L', t', r1, r2⟩ := ih (k + 1) f (by omega) (by omega)
  have hnext : t[k] = true \/ ¬ zei (evV (C[i].getLast hx.ne)) A[k] -> ((∃ j, Hit zei A t (evV (C[i].getLast hx.ne)) k j /\ L' = L.set i (j : Int) /\ t' = t.set j true) \/ (zBZ zei A t (evV (C[i].getLast hx.ne)) k /\ L' = L /\ t' = t)) := fun hc => by
   rcases r2 with ⟨j, ⟨q1, q2, q3, q4, q5, q6⟩, q7⟩ | ⟨q1, q2⟩
   ·refine .inl ⟨j, ⟨q1, q2, by omega, q4, q5, fun z hz hz' h1 h2 h3 => ?_⟩, q7⟩
    by_cases e : k = z
    ·subst e
     rcases hc with hc | hc
     ·rw [h3] at hc; cases hc
     ·exact hc
    ·exact q6 z hz hz' (by omega) h2 h3
   ·refine .inr ⟨fun z hz hz' h1 h3 => ?_, q2⟩
    by_cases e : k = z
    ·subst e
     rcases hc with hc | hc
     ·rw [h3] at hc; cases hc
     ·exact hc
    ·exact q1 z hz hz' (by omega) h3
  have hM : ∃ b, zyL 600 (zw (C[i].getLast hx.ne), A[k]) = some b /\ (b = true ↔ zei (evV (C[i].getLast hx.ne)) A[k]) := zEQ hx.last.ev.pk (hpk _ (List.getElem_mem _))
  obtain ⟨b, m1, m2⟩ := hM
  cases hb : t[k] with
  | true =>
   refine ⟨L', t', ?_, hnext (.inl hb)⟩
   show (Za 600).b _ _ ((Za 600).L f) some = _
   generalize (Za 600).L f = Lf at r1 |-
   simp only [Za]
   simp only [e2, h0, h1, decide_true, and_self, if_true, Int.toNat_natCast, zcv A k hkl, ZL, Nat.zero_add, Nat.mul_one, zb7 t k hkt, hb, Bool.not_true, zG, zW, n1]
   exact r1
  | false =>
   cases b with
   | false =>
    refine ⟨L', t', ?_, hnext (.inr fun h => by have := m2.2 h; cases this)⟩
    show (Za 600).b _ _ ((Za 600).L f) some = _
    generalize (Za 600).L f = Lf at r1 |-
    simp only [Za]
    simp only [e2, h0, h1, decide_true, and_self, if_true, Int.toNat_natCast, zcv A k hkl, ZL, Nat.zero_add, Nat.mul_one, zb7 t k hkt, hb, Bool.not_false, hla, m1, zG, zW, n1]
    exact r1
   | true =>
    refine ⟨L.set i (k : Int), t.set k true, ?_, .inl ⟨k, ⟨hkl, hkt, Nat.le_refl _, hb, m2.1 rfl, fun z _ _ h1 h2 => by omega⟩, rfl, rfl⟩⟩
    show (Za 600).b _ _ ((Za 600).L f) some = _
    have b1 : i + 1 <= (ic L).length := by rw [ze3]; omega
    have b2 : k + 1 <= (bc t).length := by rw [zp9]; omega
    simp only [Za]
    simp only [e2, h0, h1, hi0, hi1, decide_true, and_self, if_true, Int.toNat_natCast, zcv A k hkl, ZL, Nat.zero_add, Nat.mul_one, zb7 t k hkt, hb, Bool.not_false, hla, m1, b1, b2, zqx, zqa, zG, zW]
theorem zzM {T : Int} {m e : Nat} {C : List (List RT7)} (he : e <= 500) (hm : m <= 100) (hC : CG T m e C) (A : List RT0) (hA : A.length <= 100) (hpk : ∀ a ∈ A, zaG a) : ∀ (d k f : Nat) (L : List Int) (t : List Bool), k + d = C.length -> d < f -> L.length = C.length -> t.length = A.length ->
  ∃ L' t', (ZP 600).L f (zD C, (C.length : Int), (k : Int), zD C, C.length, A.map zB, A.length, ic L, bc t) = some (zD C, C.length, A.map zB, A.length, ic L', bc t') /\ L'.length = C.length /\ t'.length = A.length /\ Pass zei C A k L t L' t' := by
 have hle := hC.le
 intro d
 induction d with
 | zero =>
  intro k f L t hk hf hL ht
  obtain ⟨f, rfl⟩ := pS hf
  refine ⟨L, t, ?_, hL, ht, .done (by omega)⟩
  show (ZP 600).b _ _ ((ZP 600).L f) some = _
  have e2 : decide ((k : Int) < (C.length : Int)) = false := dF (by omega)
  simp only [ZP]
  simp only [e2, zG, zW]
 | succ d ih =>
  intro k f L t hk hf hL ht
  obtain ⟨f, rfl⟩ := pS hf
  have hkl : k < C.length := by omega
  have hkL : k < L.length := by omega
  have hx := hC.xs k hkl
  have e2 : decide ((k : Int) < (C.length : Int)) = true := dT (by omega)
  have h0 : 0 <= (k : Int) := by omega
  have h1 : (k : Int) < (C.length : Int) := by omega
  have n1 := zp (show k < 1000000 by omega)
  by_cases hc : 0 <= L[k]
  ·obtain ⟨L', t', r1, r2, r3, r4⟩ := ih (k + 1) f L t (by omega) (by omega) hL ht
   refine ⟨L', t', ?_, r2, r3, .skip hkl (fun _ => hc) r4⟩
   show (ZP 600).b _ _ ((ZP 600).L f) some = _
   generalize (ZP 600).L f = Lf at r1 |-
   have e3 : decide (L[k] >= 0) = true := dT (by omega)
   simp only [ZP]
   simp only [e2, h0, h1, decide_true, and_self, if_true, Int.toNat_natCast, zV C k hkl, rd6, Nat.zero_add, Nat.mul_one, J0 L k hkL, e3, zG, zW, n1]
   exact r1
  ·have e3 : decide (L[k] >= 0) = false := dF (by omega)
   have hp := hx.pos
   have e4 : ((C[k].length : Int) == 0) = false := by rw [beq_eq_false_iff_ne]; omega
   obtain ⟨L1, t1, a1, a2⟩ := zCG he hm hC A hA hpk k hkl L hL t ht A.length 0 600 (by omega) (by omega)
   replace a1 : (Za 600).L 600 (zD C, A.map zB, (k : Int), (C.length : Int), (k : Int), (A.length : Int), 0, zD C, C.length, A.map zB, A.length, ic L, bc t, C[k].map zK) = _ := a1
   have hlt : L1.length = C.length /\ t1.length = A.length := by
    rcases a2 with ⟨j, _, rfl, rfl⟩ | ⟨_, rfl, rfl⟩
    ·simp [hL, ht]
    ·exact ⟨hL, ht⟩
   obtain ⟨L', t', r1, r2, r3, r4⟩ := ih (k + 1) f L1 t1 (by omega) (by omega) hlt.1 hlt.2
   refine ⟨L', t', ?_, r2, r3, ?_⟩
   ·show (ZP 600).b _ _ ((ZP 600).L f) some = _
    generalize (ZP 600).L f = Lf at r1 |-
    simp only [ZP]
    simp only [e2, h0, h1, decide_true, and_self, if_true, Int.toNat_natCast, zV C k hkl, rd6, Nat.zero_add, Nat.mul_one, J0 L k hkL, e3, zG, zW, n1, List.length_map, e4, zpi, a1]
    exact r1
   ·rcases a2 with ⟨j, g, rfl, rfl⟩ | ⟨g, rfl, rfl⟩
    ·exact .hit hkl (fun _ => Int.not_le.1 hc) (zjH hx.ne) g r4
    ·exact .miss hkl (fun _ => Int.not_le.1 hc) (zjH hx.ne) g r4
theorem zCH {T : Int} {m e : Nat} {C : List (List RT7)} (he : e <= 500) (hm : m <= 100) (hC : CG T m e C) (A : List RT0) (hA : A.length <= 100) (hpk : ∀ a ∈ A, zaG a) (i : Nat) (hi : i < C.length) (L : List Int) (hL : L.length = C.length) (t : List Bool) (ht : t.length = A.length) : ∀ (d k f : Nat), k + d = A.length -> d < f ->
  ∃ L' t', (zT 600).L f (zD C, A.map zB, (i : Int), (C.length : Int), (i : Int), (A.length : Int), (k : Int), zD C, C.length, A.map zB, A.length, ic L, bc t, C[i].map zK) = some (zD C, (C.length : Int), (i : Int), zD C, C.length, A.map zB, A.length, ic L', bc t') /\ ((∃ j, Hit zfE A t (evV (C[i].getLast (hC.xs i hi).ne)) k j /\ L' = L.set i (j : Int) /\ t' = t.set j true) \/ (zBZ zfE A t (evV (C[i].getLast (hC.xs i hi).ne)) k /\ L' = L /\ t' = t)) := by
 have hle := hC.le
 have hx := hC.xs i hi
 have hxl := hx.le
 have hla := zjI C[i] hx.ne (by omega)
 intro d
 induction d with
 | zero =>
  intro k f hk hf
  obtain ⟨f, rfl⟩ := pS hf
  refine ⟨L, t, ?_, .inr ⟨fun j h h' hk' => by omega, rfl, rfl⟩⟩
  show (zT 600).b _ _ ((zT 600).L f) some = _
  have e2 : decide ((k : Int) < (A.length : Int)) = false := dF (by omega)
  simp only [zT]
  simp only [e2, zG, zW]
 | succ d ih =>
  intro k f hk hf
  obtain ⟨f, rfl⟩ := pS hf
  have hkl : k < A.length := by omega
  have hkt : k < t.length := by omega
  have e2 : decide ((k : Int) < (A.length : Int)) = true := dT (by omega)
  have h0 : 0 <= (k : Int) := by omega
  have h1 : (k : Int) < (A.length : Int) := by omega
  have hi0 : 0 <= (i : Int) := by omega
  have hi1 : (i : Int) < (C.length : Int) := by omega
  have n1 := zp (show k < 1000000 by omega)
  obtain ⟨L', t', r1, r2⟩ := ih (k + 1) f (by omega) (by omega)
  have hnext : t[k] = true \/ ¬ zfE (evV (C[i].getLast hx.ne)) A[k] -> ((∃ j, Hit zfE A t (evV (C[i].getLast hx.ne)) k j /\ L' = L.set i (j : Int) /\ t' = t.set j true) \/ (zBZ zfE A t (evV (C[i].getLast hx.ne)) k /\ L' = L /\ t' = t)) := fun hc => by
   rcases r2 with ⟨j, ⟨q1, q2, q3, q4, q5, q6⟩, q7⟩ | ⟨q1, q2⟩
   ·refine .inl ⟨j, ⟨q1, q2, by omega, q4, q5, fun z hz hz' h1 h2 h3 => ?_⟩, q7⟩
    by_cases e : k = z
    ·subst e
     rcases hc with hc | hc
     ·rw [h3] at hc; cases hc
     ·exact hc
    ·exact q6 z hz hz' (by omega) h2 h3
   ·refine .inr ⟨fun z hz hz' h1 h3 => ?_, q2⟩
    by_cases e : k = z
    ·subst e
     rcases hc with hc | hc
     ·rw [h3] at hc; cases hc
     ·exact hc
    ·exact q1 z hz hz' (by omega) h3
  have hM : ∃ b, zpu 600 (zw (C[i].getLast hx.ne), A[k]) = some b /\ (b = true ↔ zfE (evV (C[i].getLast hx.ne)) A[k]) := zER hx.last.ev.pk (hpk _ (List.getElem_mem _))
  obtain ⟨b, m1, m2⟩ := hM
  cases hb : t[k] with
  | true =>
   refine ⟨L', t', ?_, hnext (.inl hb)⟩
   show (zT 600).b _ _ ((zT 600).L f) some = _
   generalize (zT 600).L f = Lf at r1 |-
   simp only [zT]
   simp only [e2, h0, h1, decide_true, and_self, if_true, Int.toNat_natCast, zcv A k hkl, ZL, Nat.zero_add, Nat.mul_one, zb7 t k hkt, hb, Bool.not_true, zG, zW, n1]
   exact r1
  | false =>
   cases b with
   | false =>
    refine ⟨L', t', ?_, hnext (.inr fun h => by have := m2.2 h; cases this)⟩
    show (zT 600).b _ _ ((zT 600).L f) some = _
    generalize (zT 600).L f = Lf at r1 |-
    simp only [zT]
    simp only [e2, h0, h1, decide_true, and_self, if_true, Int.toNat_natCast, zcv A k hkl, ZL, Nat.zero_add, Nat.mul_one, zb7 t k hkt, hb, Bool.not_false, hla, m1, zG, zW, n1]
    exact r1
   | true =>
    refine ⟨L.set i (k : Int), t.set k true, ?_, .inl ⟨k, ⟨hkl, hkt, Nat.le_refl _, hb, m2.1 rfl, fun z _ _ h1 h2 => by omega⟩, rfl, rfl⟩⟩
    show (zT 600).b _ _ ((zT 600).L f) some = _
    have b1 : i + 1 <= (ic L).length := by rw [ze3]; omega
    have b2 : k + 1 <= (bc t).length := by rw [zp9]; omega
    simp only [zT]
    simp only [e2, h0, h1, hi0, hi1, decide_true, and_self, if_true, Int.toNat_natCast, zcv A k hkl, ZL, Nat.zero_add, Nat.mul_one, zb7 t k hkt, hb, Bool.not_false, hla, m1, b1, b2, zqx, zqa, zG, zW]
theorem zzN {T : Int} {m e : Nat} {C : List (List RT7)} (he : e <= 500) (hm : m <= 100) (hC : CG T m e C) (A : List RT0) (hA : A.length <= 100) (hpk : ∀ a ∈ A, zaG a) : ∀ (d k f : Nat) (L : List Int) (t : List Bool), k + d = C.length -> d < f -> L.length = C.length -> t.length = A.length ->
  ∃ L' t', (Zl 600).L f (zD C, (C.length : Int), (k : Int), zD C, C.length, A.map zB, A.length, ic L, bc t) = some (zD C, C.length, A.map zB, A.length, ic L', bc t') /\ L'.length = C.length /\ t'.length = A.length /\ Pass zfE C A k L t L' t' := by
 have hle := hC.le
 intro d
 induction d with
 | zero =>
  intro k f L t hk hf hL ht
  obtain ⟨f, rfl⟩ := pS hf
  refine ⟨L, t, ?_, hL, ht, .done (by omega)⟩
  show (Zl 600).b _ _ ((Zl 600).L f) some = _
  have e2 : decide ((k : Int) < (C.length : Int)) = false := dF (by omega)
  simp only [Zl]
  simp only [e2, zG, zW]
 | succ d ih =>
  intro k f L t hk hf hL ht
  obtain ⟨f, rfl⟩ := pS hf
  have hkl : k < C.length := by omega
  have hkL : k < L.length := by omega
  have hx := hC.xs k hkl
  have e2 : decide ((k : Int) < (C.length : Int)) = true := dT (by omega)
  have h0 : 0 <= (k : Int) := by omega
  have h1 : (k : Int) < (C.length : Int) := by omega
  have n1 := zp (show k < 1000000 by omega)
  by_cases hc : 0 <= L[k]
  ·obtain ⟨L', t', r1, r2, r3, r4⟩ := ih (k + 1) f L t (by omega) (by omega) hL ht
   refine ⟨L', t', ?_, r2, r3, .skip hkl (fun _ => hc) r4⟩
   show (Zl 600).b _ _ ((Zl 600).L f) some = _
   generalize (Zl 600).L f = Lf at r1 |-
   have e3 : decide (L[k] >= 0) = true := dT (by omega)
   simp only [Zl]
   simp only [e2, h0, h1, decide_true, and_self, if_true, Int.toNat_natCast, zV C k hkl, rd6, Nat.zero_add, Nat.mul_one, J0 L k hkL, e3, zG, zW, n1]
   exact r1
  ·have e3 : decide (L[k] >= 0) = false := dF (by omega)
   have hp := hx.pos
   have e4 : ((C[k].length : Int) == 0) = false := by rw [beq_eq_false_iff_ne]; omega
   obtain ⟨L1, t1, a1, a2⟩ := zCH he hm hC A hA hpk k hkl L hL t ht A.length 0 600 (by omega) (by omega)
   replace a1 : (zT 600).L 600 (zD C, A.map zB, (k : Int), (C.length : Int), (k : Int), (A.length : Int), 0, zD C, C.length, A.map zB, A.length, ic L, bc t, C[k].map zK) = _ := a1
   have hlt : L1.length = C.length /\ t1.length = A.length := by
    rcases a2 with ⟨j, _, rfl, rfl⟩ | ⟨_, rfl, rfl⟩
    ·simp [hL, ht]
    ·exact ⟨hL, ht⟩
   obtain ⟨L', t', r1, r2, r3, r4⟩ := ih (k + 1) f L1 t1 (by omega) (by omega) hlt.1 hlt.2
   refine ⟨L', t', ?_, r2, r3, ?_⟩
   ·show (Zl 600).b _ _ ((Zl 600).L f) some = _
    generalize (Zl 600).L f = Lf at r1 |-
    simp only [Zl]
    simp only [e2, h0, h1, decide_true, and_self, if_true, Int.toNat_natCast, zV C k hkl, rd6, Nat.zero_add, Nat.mul_one, J0 L k hkL, e3, zG, zW, n1, List.length_map, e4, zjc, a1]
    exact r1
   ·rcases a2 with ⟨j, g, rfl, rfl⟩ | ⟨g, rfl, rfl⟩
    ·exact .hit hkl (fun _ => Int.not_le.1 hc) (zjH hx.ne) g r4
    ·exact .miss hkl (fun _ => Int.not_le.1 hc) (zjH hx.ne) g r4
def FolP (C : List (List RT7)) (A : List RT0) (L : List Int) : Prop := ∃ L1 t1 t2, Pass zei C A 0 (List.replicate C.length (-1)) (List.replicate A.length false) L1 t1 /\ Pass zfE C A 0 L1 t1 L t2
theorem zvb {T : Int} {m e : Nat} {C : List (List RT7)} (he : e <= 63) (hm : m <= 100) (hC : CG T m e C) (A : List RT0) (hA : A.length <= 100) (hpk : ∀ a ∈ A, zaG a) : ∃ L : List Int, zsl 600 (zD C, A.map zB) = some (zF L) /\ L.length = C.length /\ FolP C A L := by
 have hle := hC.le
 have hr := zCQ C.length (by omega)
 obtain ⟨L1, t1, a1, a2, a3, a4⟩ := zzM (by omega) hm hC A hA hpk C.length 0 600 (List.replicate C.length (-1)) (List.replicate A.length false) (by omega) (by omega) (by simp) (by simp)
 replace a1 : (ZP 600).L 600 (zD C, (C.length : Int), 0, zD C, C.length, A.map zB, A.length, ic (List.replicate C.length (-1)), bc (List.replicate A.length false)) = _ := a1
 obtain ⟨L2, t2, b1, b2, b3, b4⟩ := zzN (by omega) hm hC A hA hpk C.length 0 600 L1 t1 (by omega) (by omega) a2 a3
 replace b1 : (Zl 600).L 600 (zD C, (C.length : Int), 0, zD C, C.length, A.map zB, A.length, ic L1, bc t1) = _ := b1
 have c1 : (0 <= (A.length : Int) /\ (A.length : Int) <= (A.length : Int) /\ (A.length : Int).toNat * 1 <= zh) = True := by unfold zh; simp; omega
 have c2 : C.length * 1 <= (ic L2).length := by rw [ze3]; omega
 have c3 := zzm L2
 rw [b2] at c3
 refine ⟨L2, ?_, b2, L1, t1, t2, a4, b4⟩
 have d1 : zyI 600 (zD C, C.length, A.map zB, A.length, ic (List.replicate C.length (-1)), bc (List.replicate A.length false)) = some (zD C, C.length, A.map zB, A.length, ic L1, bc t1) := by
  simp only [zyI, FSpec.d, zef, zwZ, zS, zG, zW, a1]
 have d2 : zpm 600 (zD C, C.length, A.map zB, A.length, ic L1, bc t1) = some (zD C, C.length, A.map zB, A.length, ic L2, bc t2) := by
  simp only [zpm, FSpec.d, zaF, zpn, zS, zG, zW, b1]
 simp only [zsl, FSpec.d, zd7, zS, hr, List.length_map]
 rw [if_pos (of_eq_true c1)]
 simp only [Int.toNat_natCast, zxn, zG, zW, d1, d2]
 exact (if_pos c2).trans (by rw [c3])
end Go.Proofs.YthdgnfcbehcplaaGreatDoor
end
section
namespace Go.Proofs.YthdgnfcbehcplaaGreatDoor
noncomputable def zcL (A : List RT0) (t : Int) (x : List RT7) (k : Int) : List RT7 := match x.getLast? with
 | some u => match zcx A t u k with | some v => x ++ [v] | none => x
 | none => x
noncomputable def zg6 (A : List RT0) (t : Int) : Nat -> List (List RT7) -> List Int -> List Int
 | k, x :: C, l :: L => match x.getLast? with
  | some u => match zcx A t u l with | some _ => (k : Int) :: zg6 A t (k + 1) C L | none => zg6 A t (k + 1) C L
  | none => zg6 A t (k + 1) C L
 | _, _, _ => []
def tkF : List Bool -> List Int -> List Bool
 | t, [] => t
 | t, x :: L => tkF (if 0 <= x then t.set x.toNat true else t) L
theorem zrb : ∀ (L : List Int) (t : List Bool), (tkF t L).length = t.length
 | [], _ => rfl
 | x :: L, t => by
  show (tkF _ L).length = _
  rw [zrb L]
  split <;> simp
def news (t : Int) : List RT0 -> List Bool -> List (List RT7)
 | a :: A, b :: T => if b = true then news t A T else [zgd t a] :: news t A T
 | _, _ => []
theorem zxz {x : List RT7} (h : x ≠ []) : x.getLast? = some (x.getLast h) := List.getLast?_eq_some_getLast h
theorem zzB {A : List RT0} {t : Int} {u : RT7} {z : Nat} (ho : jB (kdV u) = true) (hz : z < A.length) (h : JF (kdV u) = true /\ evV u = A[z]) : zcx A t u (z : Int) = none := by
 unfold zcx
 rw [if_pos ho, dif_pos ⟨by omega, by omega⟩]
 simp only [Int.toNat_natCast]
 rw [if_pos h]
theorem zqJ {A : List RT0} {t : Int} {u : RT7} {z : Nat} (ho : jB (kdV u) = true) (hz : z < A.length) (h : ¬ (JF (kdV u) = true /\ evV u = A[z])) : zcx A t u (z : Int) = some (zgd t A[z]) := by
 unfold zcx
 rw [if_pos ho, dif_pos ⟨by omega, by omega⟩]
 simp only [Int.toNat_natCast]
 rw [if_neg h]
theorem pp35 {A : List RT0} (hA : ∀ a ∈ A, EvG a) {t : Int} {u : RT7} {n0 i0 : Nat} {T : Int} (hu : VG T n0 i0 u) (ho : jB (kdV u) = true) (z : Nat) (hz : z < A.length) (ch fl : List (List AV)) (n off N : Nat) (i lL : Int) (X : List (List AV)) (cs ci : List AV) (hcs : cs.map datF = cs) (hci : ci.map dat0 = ci) (jM : Nat × Nat) :
  (zfo 600 (ch, A.map zB, fl, t, n, i, (z : Int), off, lL, i, X, N, u, cs, ci, jM) = some (.inl (ch, A.map zB, fl, t, n, i, (z : Int), off, lL, i, X, N, cs, ci, jM)) /\ zcx A t u (z : Int) = none) \/ (zfo 600 (ch, A.map zB, fl, t, n, i, (z : Int), off, lL, i, X, N, u, cs, ci, jM) = some (.inr (ch, A.map zB, fl, t, n, i, (z : Int), off, lL, i, X, N, cs, ci, jM)) /\ zcx A t u (z : Int) = some (zgd t A[z])) := by
 have hu' : ∀ y, (ju 600).b (ch, A.map zB, fl, t, n, i, (z : Int), off, lL, i, X, N, u, cs, ci, jM) _ ((ju 600).L 599) some = y -> zfo 600 (ch, A.map zB, fl, t, n, i, (z : Int), off, lL, i, X, N, u, cs, ci, jM) = y := fun y h => h
 have hts := zjZ hu.kd
 have q7 : 0 <= u.1 /\ u.1 < 7 := ⟨hu.kd.lt.1, hu.kd.lt.2.1⟩
 have hz0 : 0 <= (z : Int) := by omega
 simp only [kdV] at hts
 cases hsh : JF u.1 with
 | false =>
  rw [hsh] at hts
  refine .inr ⟨hu' _ ?_, zqJ ho hz (fun h => by rw [kdV, hsh] at h; cases h.1)⟩
  simp only [ju]
  simp only [q7, and_self, if_true, hts, hcs, hci]
 | true =>
  rw [hsh] at hts
  obtain ⟨b, w1, w2⟩ := zjy (evV u) A[z] hu.ev.pk (hA _ (List.getElem_mem _)).pk
  replace w1 : zk4 600 (zw u, A[z]) = some b := w1
  cases b with
  | true =>
   refine .inl ⟨hu' _ ?_, zzB ho hz ⟨hsh, w2.1 rfl⟩⟩
   simp only [ju]
   simp only [q7, and_self, if_true, hts, hcs, hci, hz0, Int.toNat_natCast, zcv A z hz, ZL, w1]
  | false =>
   refine .inr ⟨hu' _ ?_, zqJ ho hz (fun h => by have := w2.2 h.2; cases this)⟩
   simp only [ju]
   simp only [q7, and_self, if_true, hts, hcs, hci, hz0, Int.toNat_natCast, zcv A z hz, ZL, w1]
theorem pp33 {A : List RT0} (hA : ∀ a ∈ A, EvG a) {t : Int} {u : RT7} {n0 i0 : Nat} {T : Int} (hu : VG T n0 i0 u) (ho : jB (kdV u) = true) {k : Int} (hk : -1 <= k /\ k < A.length) (ch fl : List (List AV)) (n : Nat) (i : Nat) (lL : Int) (X : List (List AV)) {D : List (List RT7)} {j : Nat} {cs : List AV} (hF : FC D j cs) (hi : i < D.length) (hj : j <= i) (hl : D[i].length <= 1000) (ci : List AV) (hci : ci.map dat0 = ci) :
  (zcx A t u k = none /\ zfn 600 (ch, A.map zB, fl, t, n, (i : Int), k, i, lL, (i : Int), decide (k >= 0), X, D.length, u, cs, ci, j, D.length) = some (.inl (ch, A.map zB, fl, t, n, (i : Int), i, lL, (i : Int), X, D.length, cs, ci, j, D.length))) \/ (∃ v cs', zcx A t u k = some v /\ FC (D.set i (D[i] ++ [v])) (i + 1) cs' /\ zfn 600 (ch, A.map zB, fl, t, n, (i : Int), k, i, lL, (i : Int), decide (k >= 0), X, D.length, u, cs, ci, j, D.length) = some (.inr (ch, A.map zB, fl, t, n, (i : Int), i, lL, (i : Int), X, D.length, cs', ci, i + 1, D.length))) := by
 have hu' : ∀ y, (ji 600).b (ch, A.map zB, fl, t, n, (i : Int), k, i, lL, (i : Int), decide (k >= 0), X, D.length, u, cs, ci, j, D.length) _ ((ji 600).L 599) some = y -> zfn 600 (ch, A.map zB, fl, t, n, (i : Int), k, i, lL, (i : Int), decide (k >= 0), X, D.length, u, cs, ci, j, D.length) = y := fun y h => h
 obtain ⟨tk, q3, _, q4⟩ := hF.2 i hi
 rw [q4 hj] at q3
 have b2 : i + 1 <= cs.length := by rw [hF.1]; omega
 by_cases hk0 : 0 <= k
 ·obtain ⟨z, rfl⟩ : ∃ z : Nat, k = (z : Int) := ⟨k.toNat, by omega⟩
  have hz : z < A.length := by omega
  have e1 : decide ((z : Int) >= 0) = true := dT (by omega)
  rcases pp35 hA hu ho (t := t) z hz ch fl n i D.length (i : Int) lL X cs ci hF.dF hci (j, D.length) with ⟨p1, p2⟩ | ⟨p1, p2⟩
  ·refine .inl ⟨p2, hu' _ ?_⟩
   simp only [ji]
   simp only [e1, hF.dF, hci, p1]
  ·have hc := JC (hA A[z] (List.getElem_mem _)).pk
   have b1 : ((D[i].map zK).length + 1) * 288 <= zh := by unfold zh; simp; omega
   refine .inr ⟨zgd t A[z], _, p2, (hF.to hj).set hi (D[i] ++ [zgd t A[z]]) (q := 7040) (by unfold TOB; omega), hu' _ ?_⟩
   simp only [ji]
   simp only [e1, hF.dF, hci, p1, Nat.add_zero, q3, hj, hi, and_self, if_true, hk0, Int.toNat_natCast, zcv A z hz, ZL, hc, b2, List.length_cons, List.length_nil, Nat.zero_add]
   refine (if_pos b1).trans ?_
   rw [List.map_append]
   rfl
 ·have e1 : decide (k >= 0) = false := dF (by omega)
  by_cases h2 : kdV u = 2
  ·have e2 : (u.1 == 2) = true := by simpa using h2
   refine .inl ⟨?_, hu' _ ?_⟩
   ·unfold zcx
    rw [if_pos ho, dif_neg (fun h => hk0 h.1), if_pos h2]
   ·simp only [ji]
    simp only [e1, e2, hF.dF, hci]
  ·have e2 : (u.1 == 2) = false := by simpa using h2
   have hc : zcs 600 (zw u) = some (evV u) := JC hu.ev.pk
   have b1 : ((D[i].map zK).length + 1) * 288 <= zh := by unfold zh; simp; omega
   refine .inr ⟨zvU t (evV u), _, ?_, (hF.to hj).set hi (D[i] ++ [zvU t (evV u)]) (q := 4672) (by unfold TOB; omega), hu' _ ?_⟩
   ·unfold zcx
    rw [if_pos ho, dif_neg (fun h => hk0 h.1), if_neg h2]
   ·simp only [ji]
    simp only [e1, e2, hF.dF, hci, Nat.add_zero, q3, hj, hi, and_self, if_true, hc, b2, List.length_cons, List.length_nil, Nat.zero_add]
    refine (if_pos b1).trans ?_
    rw [List.map_append]
    rfl
theorem pp27 (A : List RT0) (t : Int) (u : RT7) {k : Int} (hk : -1 <= k /\ k < A.length) (ch fl : List (List AV)) (i : Nat) (lL : Int) (X : List (List AV)) (N : Nat) (cs : List AV) (hcs : cs.map datF = cs) (tk : List Bool) (ht : tk.length = A.length) (jM : Nat × Nat) :
  znC 600 (ch, A.map zB, fl, t, A.length, (i : Int), k, i, lL, (i : Int), decide (k >= 0), X, N, u, cs, bc tk, jM) = some (ch, A.map zB, fl, t, A.length, (i : Int), k, i, lL, (i : Int), X, N, u, cs, bc (if 0 <= k then tk.set k.toNat true else tk), jM) := by
 show (Jo 600).b _ _ ((Jo 600).L 599) some = _
 simp only [Jo]
 by_cases hk0 : 0 <= k
 ·have e1 : decide (k >= 0) = true := dT (by omega)
  have b1 : k.toNat + 1 <= (bc tk).length := by rw [zp9]; omega
  simp only [e1, hk0, hk.2, decide_true, ge_iff_le, and_self, if_true, Nat.zero_add, Nat.mul_one, b1, hcs, zqa, zW]
 ·have e1 : decide (k >= 0) = false := dF (by omega)
  simp only [e1, hk0, ge_iff_le, decide_false, if_false, hcs, zW]
theorem rd6t (xs : List (List AV)) (t : Option Nat) (r : List AV) : zgc (AV.list 29 xs t :: r) = some (xs, ()) := by
 show dec RK6 _ = _
 simp only [dec, zqg, jf, if_true]
theorem zzY {α : Type} (P C : List α) (k : Nat) (h : P.length = k) (hk : k < C.length) (y : α) : (P ++ C.drop k).set k y = (P ++ [y]) ++ C.drop (k + 1) := by
 subst h
 rw [List.drop_eq_getElem_cons hk, List.set_append_right _ _ (Nat.le_refl _), Nat.sub_self, List.set_cons_zero, List.append_assoc, List.singleton_append]
theorem zqQ {T t : Int} {m e : Nat} {C : List (List RT7)} (hC : CG T m e C) (he : e <= 500) (hm : m < 100) (A : List RT0) (hA : ∀ a ∈ A, EvG a) (L : List Int) (hL : L.length = C.length) (hr : Rg A.length L) (X : List (List AV)) : ∀ (d k f : Nat) (ch : List Int) (P : List (List RT7)) (cs : List AV) (tk : List Bool) (j : Nat), k + d = C.length -> d < f -> j <= k -> ch.length <= k -> P.length = k -> tk.length = A.length -> FC (P ++ C.drop k) j cs ->
  ∃ (cs' : List AV) (j' : Nat), (zZ 600).L f (zF ch, A.map zB, zF L, t, A.length, (C.length : Int), (k : Int), X, C.length, cs, bc tk, j, C.length) = some (.inr (zF (ch ++ zg6 A t k (C.drop k) (L.drop k)), A.map zB, t, A.length, X, C.length, cs', bc (tkF tk (L.drop k)), j', C.length)) /\ FC (P ++ List.zipWith (zcL A t) (C.drop k) (L.drop k)) j' cs' := by
 have hle := hC.le
 intro d
 induction d with
 | zero =>
  intro k f ch P cs tk j hk hf hj hch hP ht hF
  obtain ⟨f, rfl⟩ := pS hf
  have d1 : C.drop k = [] := List.drop_eq_nil_of_le (by omega)
  have d2 : L.drop k = [] := List.drop_eq_nil_of_le (by omega)
  rw [d1] at hF
  refine ⟨cs, j, ?_, by rw [d1]; simpa using hF⟩
  show (zZ 600).b _ _ ((zZ 600).L f) some = _
  have e2 : decide ((k : Int) < (C.length : Int)) = false := dF (by omega)
  simp only [zZ]
  simp only [e2, zW, hF.dF, d1, d2, zg6, tkF, List.append_nil]
 | succ d ih =>
  intro k f ch P cs tk j hk hf hj hch hP ht hF
  obtain ⟨f, rfl⟩ := pS hf
  have hkl : k < C.length := by omega
  have hkL : k < L.length := by omega
  have d1 := List.drop_eq_getElem_cons hkl
  have d2 := List.drop_eq_getElem_cons hkL
  have hDl : (P ++ C.drop k).length = C.length := by simp; omega
  have hkd : k < (P ++ C.drop k).length := by omega
  have hDk : (P ++ C.drop k)[k] = C[k] := by
   rw [List.getElem_append_right (by omega)]
   simp [hP]
  have e2 : decide ((k : Int) < (C.length : Int)) = true := dT (by omega)
  have h0 : 0 <= (k : Int) := by omega
  have hk1 : (k : Int) < (C.length : Int) := by omega
  have hx := hC.xs k hkl
  have hxl := hx.le
  have hla := zjI C[k] hx.ne (by omega)
  have hlq := zxz hx.ne
  obtain ⟨u, hu⟩ : ∃ u, u = C[k].getLast hx.ne := ⟨_, rfl⟩
  have hLast := hx.last
  rw [<- hu] at hla hLast hlq
  have hop := zxD hLast.kd
  simp only [kdV] at hop
  have hrk := hr _ (List.getElem_mem hkL)
  obtain ⟨tk', htk⟩ : ∃ tk', tk' = if 0 <= L[k] then tk.set L[k].toNat true else tk := ⟨_, rfl⟩
  have htl : tk'.length = A.length := by rw [htk]; split <;> simp [ht]
  have a27 := pp27 A t u hrk (zF ch) (zF L) k (C.length : Int) X C.length cs hF.dF tk ht (j, C.length)
  rw [<- htk] at a27
  have n1 := zp (show k < 1000000 by omega)
  have g1 : (zF L)[k]? = some [I L[k]] := zdQ L k hkL
  have g2 : ([I L[k]] : List AV)[0]? = some (AV.v (.int .i64 L[k])) := rfl
  obtain ⟨tok, q3, _, q4⟩ := hF.2 k hkd
  rw [hDk] at q3
  have hkc : k < cs.length := by rw [hF.1]; omega
  have g3 : zgc (cs.drop k) = some (C[k].map zK, ()) := by
   rw [List.drop_eq_getElem_cons hkc]
   rw [List.getElem?_eq_getElem hkc] at q3
   rw [Option.some.inj q3, rd6t]
  have hz : List.zipWith (zcL A t) (C.drop k) (L.drop k) = zcL A t C[k] L[k] :: List.zipWith (zcL A t) (C.drop (k + 1)) (L.drop (k + 1)) := by rw [d1, d2]; rfl
  have htF : tkF tk (L.drop k) = tkF tk' (L.drop (k + 1)) := by rw [d2, htk]; rfl
  have hsame : zcx A t u L[k] = none -> zcL A t C[k] L[k] = C[k] /\ zg6 A t k (C.drop k) (L.drop k) = zg6 A t (k + 1) (C.drop (k + 1)) (L.drop (k + 1)) := fun h => by
   rw [d1, d2]
   simp only [zcL, zg6, hlq, h, and_self]
  have hkeep : zcx A t u L[k] = none -> ∃ (cs' : List AV) (j' : Nat), (zZ 600).L f (zF ch, A.map zB, zF L, t, A.length, (C.length : Int), ((k + 1 : Nat) : Int), X, C.length, cs, bc tk', j, C.length) = some (.inr (zF (ch ++ zg6 A t k (C.drop k) (L.drop k)), A.map zB, t, A.length, X, C.length, cs', bc (tkF tk (L.drop k)), j', C.length)) /\ FC (P ++ List.zipWith (zcL A t) (C.drop k) (L.drop k)) j' cs' := fun h => by
   obtain ⟨s1, s2⟩ := hsame h
   have hF' : FC ((P ++ [C[k]]) ++ C.drop (k + 1)) j cs := by rw [List.append_assoc, List.singleton_append, <- d1]; exact hF
   obtain ⟨cs', j', r1, r2⟩ := ih (k + 1) f ch (P ++ [C[k]]) cs tk' j (by omega) (by omega) (by omega) (by omega) (by simp [hP]) htl hF'
   refine ⟨cs', j', ?_, ?_⟩
   ·rw [s2, htF]; exact r1
   ·rw [hz, s1]; rw [List.append_assoc, List.singleton_append] at r2; exact r2
  cases hoc : jB u.1 with
  | false =>
   have hnv : zcx A t u L[k] = none := by
    unfold zcx
    rw [if_neg (by rw [kdV, hoc]; decide)]
   obtain ⟨cs', j', r1, r2⟩ := hkeep hnv
   refine ⟨cs', j', ?_, r2⟩
   show (zZ 600).b _ _ ((zZ 600).L f) some = _
   generalize (zZ 600).L f = Lf at r1 |-
   rw [hoc] at hop
   simp only [zZ]
   simp only [e2, h0, hk1, decide_true, and_self, if_true, Int.toNat_natCast, g1, g2, Nat.zero_add, Nat.mul_one, g3, hla, hF.dF, zW, a27, hop, Bool.not_false, n1]
   exact r1
  | true =>
   rw [hoc] at hop
   have h33 := pp33 hA hLast hoc (t := t) hrk (zF ch) (zF L) A.length k (C.length : Int) X hF hkd hj (by rw [hDk]; omega) (bc tk') (zW tk')
   rw [hDl] at h33
   rcases h33 with ⟨hnv, a33⟩ | ⟨v, cs1, hnv, hF1, a33⟩
   ·obtain ⟨cs', j', r1, r2⟩ := hkeep hnv
    refine ⟨cs', j', ?_, r2⟩
    show (zZ 600).b _ _ ((zZ 600).L f) some = _
    generalize (zZ 600).L f = Lf at r1 |-
    simp only [zZ]
    simp only [e2, h0, hk1, decide_true, and_self, if_true, Int.toNat_natCast, g1, g2, Nat.zero_add, Nat.mul_one, g3, hla, hF.dF, zW, a27, hop, Bool.not_true, a33, n1]
    exact r1
   ·have s1 : zcL A t C[k] L[k] = C[k] ++ [v] := by simp only [zcL, hlq, hnv]
    have s2 : zg6 A t k (C.drop k) (L.drop k) = (k : Int) :: zg6 A t (k + 1) (C.drop (k + 1)) (L.drop (k + 1)) := by
     rw [d1, d2]
     simp only [zg6, hlq, hnv]
    obtain ⟨tok2, y3, _, _⟩ := hF1.2 k (by simpa using hkd)
    rw [List.getElem_set_self, hDk] at y3
    have l1 : jf 29 (AV.list 29 ((C[k] ++ [v]).map zK) tok2) = some ((C[k] ++ [v]).map zK) := by simp [jf]
    have c1 : decide ((((C[k] ++ [v]).map zK).length : Int) > 100) = false := by rw [decide_eq_false_iff_not]; simp; omega
    rw [hDk, zzY P C k hP hkl] at hF1
    obtain ⟨cs', j', r1, r2⟩ := ih (k + 1) f (ch ++ [(k : Int)]) (P ++ [C[k] ++ [v]]) cs1 tk' (k + 1) (by omega) (by omega) (by omega) (by simp; omega) (by simp [hP]) htl hF1
    refine ⟨cs', j', ?_, ?_⟩
    ·have b3 : ((zF ch).length + 1) * 8 <= zh := by rw [Ja]; unfold zh; omega
     have r0 : zF (ch ++ [(k : Int)]) = zF ch ++ [[AV.v (.int .i64 (k : Int))]] := by simp [zF]
     rw [s2, htF]
     rw [r0, List.append_assoc, List.singleton_append] at r1
     show (zZ 600).b _ _ ((zZ 600).L f) some = _
     generalize (zZ 600).L f = Lf at r1 |-
     simp only [zZ]
     simp only [e2, h0, hk1, decide_true, and_self, if_true, Int.toNat_natCast, g1, g2, Nat.zero_add, Nat.mul_one, Nat.add_zero, g3, hla, hF.dF, zW, a27, hop, Bool.not_true, a33, n1, y3, l1, c1, b3, hF1.dF, List.length_cons, List.length_nil]
     exact r1
    ·rw [hz, s1]; rw [List.append_assoc, List.singleton_append] at r2; exact r2
end Go.Proofs.YthdgnfcbehcplaaGreatDoor
end
section
namespace Go.Proofs.YthdgnfcbehcplaaGreatDoor
theorem zcG {t : Int} : ∀ {A : List RT0} {T : List Bool} {x : List RT7}, x ∈ news t A T -> ∃ a ∈ A, x = [zgd t a]
 | [], _, _, h => by cases h
 | a :: A, [], _, h => by cases h
 | a :: A, b :: T, x, h => by
  simp only [news] at h
  split at h
  ·obtain ⟨a', h1, h2⟩ := zcG h
   exact ⟨a', List.mem_cons_of_mem _ h1, h2⟩
  ·rcases List.mem_cons.1 h with h | h
   ·exact ⟨a, List.mem_cons_self, h⟩
   ·obtain ⟨a', h1, h2⟩ := zcG h
    exact ⟨a', List.mem_cons_of_mem _ h1, h2⟩
theorem ziy (t : Int) : ∀ (A : List RT0) (T : List Bool), (news t A T).length <= A.length
 | [], _ => Nat.le_refl _
 | a :: A, [] => Nat.zero_le _
 | a :: A, b :: T => by
  have := ziy t A T
  simp only [news]
  split
  ·simp; omega
  ·simp; omega
noncomputable def zhH (C : List (List RT7)) (A : List RT0) (L : List Int) (t : Int) : List (List RT7) := List.zipWith (zcL A t) C L ++ news t A (tkF (List.replicate A.length false) L)
theorem zdZ {C : List (List RT7)} {L : List Int} (h : L.length = C.length) (A : List RT0) (t : Int) : (List.zipWith (zcL A t) C L).length = C.length := by simp [h]
theorem zCJ {A : List RT0} (hA : ∀ a ∈ A, EvG a) {T t : Int} {n n' i m : Nat} {x : List RT7} (hx : XG T n i m x) (hT : T <= t) (hn : n <= n') (k : Int) : XG t n' i (m + 1) (zcL A t x k) := by
 unfold zcL
 rw [zxz hx.ne]
 dsimp only
 cases hv : zcx A t (x.getLast hx.ne) k with
 | none => exact hx.mono hT hn (by omega)
 | some v =>
  obtain ⟨g1, g2⟩ := zxC hA hx hT hv
  exact (hx.snoc hT g1 g2).mono (Int.le_refl _) hn (Nat.le_refl _)
theorem zB4 {α : Type} (P Q : List α) (k : Nat) (h : k < P.length) (h' : k < (P ++ Q).length) : (P ++ Q)[k] = P[k] := List.getElem_append_left h
theorem zB5 {α : Type} (P Q : List α) (k : Nat) (h : P.length <= k) (h' : k < (P ++ Q).length) : (P ++ Q)[k] = Q[k - P.length]'(by simp at h'; omega) := List.getElem_append_right h
theorem CG.pub {T t : Int} {m e : Nat} {C : List (List RT7)} (hC : CG T m e C) (hT : T <= t) (h0 : 0 <= t) {A : List RT0} (hA : ∀ a ∈ A, EvG a) {L : List Int} (hL : L.length = C.length) : CG t (m + 1) (e + A.length) (zhH C A L t) := by
 have hz := zdZ hL A t
 have hn := ziy t A (tkF (List.replicate A.length false) L)
 have hle := hC.le
 have hl : C.length <= (zhH C A L t).length := by unfold zhH; rw [List.length_append, hz]; omega
 refine ⟨fun k hk => ?_, by unfold zhH; rw [List.length_append, hz]; omega⟩
 by_cases h : k < C.length
 ·have e : (zhH C A L t)[k] = zcL A t C[k] (L[k]'(by omega)) := by
   refine (zB4 (List.zipWith (zcL A t) C L) _ k (by rw [hz]; exact h) hk).trans ?_
   rw [List.getElem_zipWith]
  rw [e]
  exact zCJ hA (hC.xs k h) hT hl _
 ·have hm : (zhH C A L t)[k] ∈ news t A (tkF (List.replicate A.length false) L) := by
   have e : (zhH C A L t)[k] = _ := zB5 (List.zipWith (zcL A t) C L) _ k (by rw [hz]; omega) hk
   rw [e]
   exact List.getElem_mem _
  obtain ⟨a, h1, h2⟩ := zcG hm
  rw [h2]
  exact XG.one (by omega) (zp8 (T := t) h0 (hA a h1)) rfl
theorem ziC {t : Int} (A : List RT0) (hA : ∀ a ∈ A, EvG a) (hAl : A.length <= 100) (tk : List Bool) (ht : tk.length = A.length) (X : List (List AV)) : ∀ (d k f : Nat) (ch : List Int) (D : List (List RT7)), k + d = A.length -> d < f -> D.length + d <= 500 -> ch.length <= D.length ->
  (ZD 600).L f (zF ch, A.map zB, t, A.length, (A.length : Int), (k : Int), X, D.length, bc tk, zaH D) = some (zF (ch ++ (List.range' D.length (news t (A.drop k) (tk.drop k)).length).map fun x : Nat => (x : Int)), X, (D ++ news t (A.drop k) (tk.drop k)).length, zaH (D ++ news t (A.drop k) (tk.drop k))) := by
 intro d
 induction d with
 | zero =>
  intro k f ch D hk hf he hch
  obtain ⟨f, rfl⟩ := pS hf
  show (ZD 600).b _ _ ((ZD 600).L f) some = _
  have e2 : decide ((k : Int) < (A.length : Int)) = false := dF (by omega)
  have d1 : A.drop k = [] := List.drop_eq_nil_of_le (by omega)
  simp only [ZD]
  simp only [e2, j3, d1, news, List.append_nil, List.length_nil, List.range'_zero, List.map_nil]
 | succ d ih =>
  intro k f ch D hk hf he hch
  obtain ⟨f, rfl⟩ := pS hf
  have hkl : k < A.length := by omega
  have hkt : k < tk.length := by omega
  have d1 := List.drop_eq_getElem_cons hkl
  have d2 := List.drop_eq_getElem_cons hkt
  have e2 : decide ((k : Int) < (A.length : Int)) = true := dT (by omega)
  have h0 : 0 <= (k : Int) := by omega
  have h1 : (k : Int) < (A.length : Int) := by omega
  have n1 := zp (show k < 1000000 by omega)
  show (ZD 600).b _ _ ((ZD 600).L f) some = _
  cases hb : tk[k] with
  | true =>
   have r1 := ih (k + 1) f ch D (by omega) (by omega) (by omega) hch
   generalize (ZD 600).L f = Lf at r1 |-
   have hn : news t (A.drop k) (tk.drop k) = news t (A.drop (k + 1)) (tk.drop (k + 1)) := by
    rw [d1, d2]; simp only [news, hb, if_true]
   simp only [ZD]
   simp only [e2, h0, h1, decide_true, and_self, if_true, Int.toNat_natCast, zcv A k hkl, ZL, Nat.zero_add, Nat.mul_one, zb7 tk k hkt, hb, Bool.not_true, zW, j3, n1, hn]
   exact r1
  | false =>
   have r1 := ih (k + 1) f (ch ++ [(D.length : Int)]) (D ++ [[zgd t A[k]]]) (by omega) (by omega) (by simp; omega) (by simp; omega)
   obtain ⟨Lf, hLf⟩ : ∃ Lf, Lf = (ZD 600).L f := ⟨_, rfl⟩
   have hn : news t (A.drop k) (tk.drop k) = [zgd t A[k]] :: news t (A.drop (k + 1)) (tk.drop (k + 1)) := by
    rw [d1, d2]; simp only [news, hb, Bool.false_eq_true, if_false]
   have hl1 : (D ++ [[zgd t A[k]]]).length = D.length + 1 := by simp
   have r0 : zF (ch ++ [(D.length : Int)]) = zF ch ++ [[AV.v (.int .i64 ((D.length : Nat) : Int))]] := by simp [zF]
   rw [List.append_assoc, List.append_assoc, List.singleton_append, List.singleton_append, <- hn, hl1, <- zjm, r0] at r1
   have hr' : ∀ q : Nat, (((List.range' D.length (q + 1)).map fun x : Nat => (x : Int))) = (D.length : Int) :: (List.range' (D.length + 1) q).map fun x : Nat => (x : Int) := fun q => by
    rw [List.range'_succ, List.map_cons]
   have hnl : (news t (A.drop k) (tk.drop k)).length = (news t (A.drop (k + 1)) (tk.drop (k + 1))).length + 1 := by rw [hn]; simp
   rw [<- hr', <- hnl] at r1
   rw [<- hLf] at r1 |-
   have hc := JC (hA A[k] (List.getElem_mem _)).pk
   have b1 : ((zF ch).length + 1) * 8 <= zh := by rw [Ja]; unfold zh; omega
   have b2 : (D.length * 1 <= (zaH D).length /\ (D.length + 1) * 24 <= zh) := by rw [zbc]; unfold zh; omega
   simp only [ZD]
   simp only [e2, h0, h1, decide_true, and_self, if_true, Int.toNat_natCast, zcv A k hkl, ZL, Nat.zero_add, zW, j3, n1, List.length_cons, List.length_nil, b1, hc]
   simp only [Nat.mul_one, zb7 tk k hkt, hb, Bool.not_false]
   rw [Nat.mul_one] at b2 r1
   exact (if_pos b2).trans r1
structure FInv (A : List RT0) (n : Nat) (o : List Int) (t : List Bool) : Prop where
 ol : o.length = n
 tl : t.length = A.length
 rg : Rg A.length o
 tk : ∀ i (h : i < o.length) (j : Nat) (hj : j < t.length), o[i] = (j : Int) -> t[j] = true
 inj : ∀ i i' (h : i < o.length) (h' : i' < o.length), 0 <= o[i] -> o[i] = o[i'] -> i = i'
theorem Pass.inv {M : RT0 -> RT0 -> Prop} {C : List (List RT7)} {A : List RT0} {k : Nat} {o o' : List Int} {t t' : List Bool} (h : Pass M C A k o t o' t') (n : Nat) (hi : FInv A n o t) : FInv A n o' t' := by
 induction h with
 | done _ => exact hi
 | skip _ _ _ ih => exact ih hi
 | miss _ _ _ _ _ ih => exact ih hi
 | @hit k j o o' t t' a h1 h2 h3 h4 _ ih =>
  obtain ⟨ol, tl, rg, tk, inj⟩ := hi
  obtain ⟨g1, g2, g3, g4, g5, g6⟩ := h4
  have hfr : ∀ i (h : i < o.length), o[i] ≠ (j : Int) := fun i h e => by
   have := tk i h j g2 e
   rw [g4] at this; cases this
  refine ih ⟨by simpa using ol, by simpa using tl, rg.set k (by omega), fun i hi l hl he => ?_, fun i i' hi hi' h0 he => ?_⟩
  ·simp only [List.length_set] at hi hl
   rw [List.getElem_set]
   split
   ·rfl
   ·rename_i hne
    rw [List.getElem_set] at he
    split at he
    ·exact absurd (by omega : j = l) hne
    ·exact tk i hi l hl he
  ·simp only [List.length_set] at hi hi'
   rw [List.getElem_set] at h0 he
   rw [List.getElem_set] at he
   split at he
   ·rename_i e1
    split at he
    ·omega
    ·exact absurd he.symm (hfr i' hi')
   ·rename_i e1
    rw [if_neg e1] at h0
    split at he
    ·exact absurd he (hfr i hi)
    ·exact inj i i' hi hi' h0 he
theorem FolP.inv {C : List (List RT7)} {A : List RT0} {L : List Int} (h : FolP C A L) : L.length = C.length /\ Rg A.length L /\ ∀ i i' (h : i < L.length) (h' : i' < L.length), 0 <= L[i] -> L[i] = L[i'] -> i = i' := by
 obtain ⟨L1, t1, t2, h1, h2⟩ := h
 have h3 := h2.inv C.length (h1.inv C.length ⟨by simp, by simp, fun x hx => by rw [(List.mem_replicate.1 hx).2]; omega, fun i h j hj e => by
  simp at e, fun i i' h h' h0 => by simp at h0⟩)
 exact ⟨h3.ol, h3.rg, h3.inj⟩
theorem zqc (A : List RT0) (t : Int) : ∀ (C : List (List RT7)) (L : List Int) (k : Nat), (zg6 A t k C L).length <= C.length
 | [], _, _ => Nat.zero_le _
 | x :: C, [], _ => Nat.zero_le _
 | x :: C, l :: L, k => by
  have := zqc A t C L (k + 1)
  simp only [zg6]
  split
  ·split <;> simp <;> omega
  ·simp; omega
noncomputable def chgC (C : List (List RT7)) (A : List RT0) (L : List Int) (t : Int) : List Int := zg6 A t 0 C L ++ (List.range' C.length (news t A (tkF (List.replicate A.length false) L)).length).map fun x : Nat => (x : Int)
theorem zqS {T t : Int} {m e : Nat} {C : List (List RT7)} (hC : CG T m e C) {A : List RT0} {M : Nat} (hM : M <= 5) (hA : Evs 0 M A) (he : e <= 63) (hm : m < 100) (hT : T <= t) (hT0 : 0 <= T) (ht : t <= 18014398509481984) : ∃ L, zsl 600 (zD C, A.map zB) = some (zF L) /\ FolP C A L /\ zku 600 (zD C, A.map zB, t) = some (zD (zhH C A L t), zF (chgC C A L t), 0) /\ CG t (m + 1) (e + A.length) (zhH C A L t) := by
 have hle := hC.le
 have hAl := zdC hA
 have hg : ∀ a ∈ A, EvG a := fun a ha => (hA.evn hM a ha).g
 have hV := zfF (by omega) (by omega) (by omega) hC
 have hE := zaY hM hA
 have hTm := zj1 (by omega) (by omega) hC hT (by omega) ht hT0
 obtain ⟨cs, q1, q2⟩ := zxq (by omega) (by omega) hC
 obtain ⟨L, f1, f2, f3⟩ := zvb he (by omega) hC A (by omega) (fun a ha => (hg a ha).pk)
 have hrg := f3.inv.2.1
 refine ⟨L, f1, f3, ?_, hC.pub hT (by omega) hg f2⟩
 obtain ⟨cs', j', p1, p2⟩ := zqQ hC (by omega) hm A hg L f2 hrg [] (t := t) C.length 0 600 [] [] cs (List.replicate A.length false) 0 (by omega) (by omega) (by omega) (by simp) rfl (by simp) (by simpa using q2)
 have hz := zdZ f2 A t
 have hch := zqc A t C L 0
 simp only [List.drop_zero, List.nil_append] at p1 p2
 replace p1 : (zZ 600).L 600 ([], A.map zB, zF L, t, A.length, (C.length : Int), 0, [], C.length, cs, bc (List.replicate A.length false), 0, C.length) = _ := p1
 have s1 := ziC A hg (by omega) (tkF (List.replicate A.length false) L) (by rw [zrb]; simp) [] (t := t) A.length 0 600 (zg6 A t 0 C L) (List.zipWith (zcL A t) C L) (by omega) (by omega) (by rw [hz]; omega) (by rw [hz]; omega)
 simp only [List.drop_zero, hz] at s1
 replace s1 : (ZD 600).L 600 (zF (zg6 A t 0 C L), A.map zB, t, A.length, (A.length : Int), 0, [], C.length, bc (tkF (List.replicate A.length false) L), zaH (List.zipWith (zcL A t) C L)) = _ := s1
 have hpl : (List.zipWith (zcL A t) C L ++ news t A (tkF (List.replicate A.length false) L)).length <= 500 := by
  have := ziy t A (tkF (List.replicate A.length false) L)
  rw [List.length_append, hz]; omega
 obtain ⟨D, hD⟩ : ∃ D, D = List.zipWith (zcL A t) C L ++ news t A (tkF (List.replicate A.length false) L) := ⟨_, rfl⟩
 rw [<- hD] at s1 hpl
 have n7 : decide (((D.length : Nat) : Int) > 500) = false := dF (by omega)
 have n8 : D.length * 1 <= (zaH D).length := by rw [zbc]; omega
 have n9 : ((0 : Int) != 0) = false := by decide
 have c1 : (0 <= (A.length : Int) /\ (A.length : Int) <= (A.length : Int) /\ (A.length : Int).toNat * 1 <= zh) := by unfold zh; omega
 simp only [zku, FSpec.d, zd2, hV, hE, hTm, Bool.not_true, n9, q1, List.length_map]
 rw [if_pos c1]
 simp only [f1, q2.dJ, q2.dF, Ja, List.length_map, f2, zxn, zW, Int.toNat_natCast, znB, p1, znD, p2.d0, s1, n7]
 rw [if_pos n8, zeY]
 rw [hD]
 rfl
end Go.Proofs.YthdgnfcbehcplaaGreatDoor
end
section
namespace Go.Proofs.YthdgnfcbehcplaaGreatDoor
theorem zvA {C : List (List RT7)} {A : List RT0} {L : List Int} {t : Int} (hL : L.length = C.length) : C.length <= (zhH C A L t).length := by
 unfold zhH
 rw [List.length_append, zdZ hL]
 omega
theorem zvz {C : List (List RT7)} {A : List RT0} {L : List Int} {t : Int} (hL : L.length = C.length) (k : Nat) (h : k < C.length) (h' : k < (zhH C A L t).length) : (zhH C A L t)[k] = zcL A t C[k] (L[k]'(by omega)) := by
 refine (zB4 (List.zipWith (zcL A t) C L) _ k (by rw [zdZ hL]; exact h) h').trans ?_
 rw [List.getElem_zipWith]
end Go.Proofs.YthdgnfcbehcplaaGreatDoor
end
section
namespace Go.Proofs.YthdgnfcbehcplaaGreatDoor
def atN (x : List RT7) (s : Int) : Nat -> List RT0
 | 0 => []
 | m + 1 => match x[m]? with
  | some v => if atV v <= s then (if JF (kdV v) = true then [evV v] else []) else atN x s m
  | none => []
def atE (C : List (List RT7)) (s : Int) : List RT0 := C.flatMap fun x => atN x s x.length
theorem zp5 (x : List RT7) (v : RT7) (s : Int) : ∀ m, m <= x.length -> atN (x ++ [v]) s m = atN x s m
 | 0, _ => rfl
 | m + 1, h => by
  simp only [atN]
  rw [List.getElem?_append_left (by omega), zp5 x v s m (by omega)]
theorem zp7 (x : List RT7) {v : RT7} {s : Int} (h : s < atV v) : atN (x ++ [v]) s (x ++ [v]).length = atN x s x.length := by
 rw [List.length_append, List.length_singleton]
 simp only [atN]
 rw [List.getElem?_append_right (Nat.le_refl _), Nat.sub_self]
 simp only [List.getElem?_cons_zero]
 rw [if_neg (by omega), zp5 x v s _ (Nat.le_refl _)]
theorem zp6 (x : List RT7) (s : Int) : ∀ m, (atN x s m).length <= 1
 | 0 => Nat.zero_le _
 | m + 1 => by
  simp only [atN]
  split
  ·split
   ·split <;> simp
   ·exact zp6 x s m
  ·simp
theorem zEI (v : RT7) : zrk RK7 (zK v) = some v := by kernel_rfl
theorem zuP {T : Int} {n i : Nat} {v : RT7} (h : VG T n i v) (m s : Int) (acc : List (List AV)) (ha : acc.length <= 1000) : zc1 600 (m, v, s, acc) = some (if atV v <= s then (false, s, acc ++ (if JF (kdV v) = true then [evV v] else []).map zB) else (true, s, acc)) := by
 have q7 : 0 <= v.1 /\ v.1 < 7 := ⟨h.kd.lt.1, h.kd.lt.2.1⟩
 have hts := zjZ h.kd
 simp only [kdV] at hts
 have hc : zcs 600 (zw v) = some (evV v) := JC h.ev.pk
 have b1 : (acc.length + 1) * 248 <= zh := by unfold zh; omega
 simp only [zc1, FSpec.d, ZJ]
 by_cases hs : v.2.1 <= s
 ·have e1 : decide (v.2.1 <= s) = true := by rw [decide_eq_true_iff]; exact hs
  rw [if_pos (show atV v <= s from hs)]
  cases hk : JF v.1 with
  | true =>
   rw [hk] at hts
   simp only [e1, q7, and_self, if_true, hts, hc, List.length_cons, List.length_nil, Nat.zero_add]
   exact if_pos b1
  | false =>
   rw [hk] at hts
   simp only [e1, q7, and_self, if_true, hts, Bool.false_eq_true, if_false, List.map_nil, List.append_nil]
 ·have e1 : decide (v.2.1 <= s) = false := by rw [decide_eq_false_iff_not]; exact hs
  rw [if_neg (show ¬ atV v <= s from hs)]
  simp only [e1]
theorem zEC {T : Int} {n j m0 : Nat} {x : List RT7} (h : XG T n j m0 x) (hm : m0 <= 100) (X : List (List AV)) (l i s : Int) (acc : List (List AV)) (ha : acc.length <= 1000) : ∀ (m f : Nat), m <= x.length -> m < f -> (Zd 600).L f (X, l, i, s, acc, x.map zK, m) = some (X, l, i, s, acc ++ (atN x s m).map zB) := by
 have hxl := h.le
 intro m
 have hb : (x.map zK).length <= 1000000 := by simp; omega
 induction m with
 | zero =>
  intro f hk hf
  obtain ⟨f, rfl⟩ := pS hf
  show (Zd 600).b _ _ ((Zd 600).L f) some = _
  simp only [Zd]
  simp only [hb, if_true, atN, List.map_nil, List.append_nil]
 | succ m ih =>
  intro f hk hf
  obtain ⟨f, rfl⟩ := pS hf
  have hml : m < x.length := by omega
  have r1 := ih f (by omega) (by omega)
  have hr := zuP (h.vs m hml) (m : Int) s acc ha
  show (Zd 600).b _ _ ((Zd 600).L f) some = _
  generalize (Zd 600).L f = Lf at r1 |-
  simp only [Zd]
  simp only [hb, if_true, zqs x m hml, zEI, hr]
  have hat : atN x s (m + 1) = if atV x[m] <= s then (if JF (kdV x[m]) = true then [evV x[m]] else []) else atN x s m := by
   simp only [atN, List.getElem?_eq_getElem hml]
  rw [hat]
  by_cases hs : atV x[m] <= s
  ·rw [if_pos hs, if_pos hs]
  ·rw [if_neg hs, if_neg hs]
   exact r1
theorem zCa {T : Int} {m e : Nat} {C : List (List RT7)} (hC : CG T m e C) (he : e <= 500) (hm : m <= 100) (s : Int) : ∀ (d k f : Nat) (acc : List RT0), k + d = C.length -> d < f -> acc.length <= k -> (jF 600).L f (zD C, (C.length : Int), (k : Int), s, acc.map zB) = some ((acc ++ atE (C.drop k) s).map zB) := by
 have hle := hC.le
 intro d
 induction d with
 | zero =>
  intro k f acc hk hf ha
  obtain ⟨f, rfl⟩ := pS hf
  show (jF 600).b _ _ ((jF 600).L f) some = _
  have e2 : decide ((k : Int) < (C.length : Int)) = false := dF (by omega)
  have d1 : C.drop k = [] := List.drop_eq_nil_of_le (by omega)
  simp only [jF]
  simp only [e2, d1, atE, List.flatMap_nil, List.append_nil]
 | succ d ih =>
  intro k f acc hk hf ha
  obtain ⟨f, rfl⟩ := pS hf
  have hkl : k < C.length := by omega
  have hx := hC.xs k hkl
  have hxl := hx.le
  have hn := zp6 C[k] s C[k].length
  have r1 := ih (k + 1) f (acc ++ atN C[k] s C[k].length) (by omega) (by omega) (by simp; omega)
  have h17 := zEC hx hm (zD C) (C.length : Int) (k : Int) s (acc.map zB) (by simp; omega) C[k].length 600 (Nat.le_refl _) (by omega)
  have hd : atE (C.drop k) s = atN C[k] s C[k].length ++ atE (C.drop (k + 1)) s := by
   rw [List.drop_eq_getElem_cons hkl]; rfl
  rw [hd, <- List.append_assoc]
  show (jF 600).b _ _ ((jF 600).L f) some = _
  generalize (jF 600).L f = Lf at r1 |-
  have e2 : decide ((k : Int) < (C.length : Int)) = true := dT (by omega)
  have h0 : 0 <= (k : Int) := by omega
  have hbk : zBm 600 (C[k].map zK) = some (C[k].map zK) := rfl
  rw [List.map_append] at r1
  simp only [jF]
  simp only [e2, h0, if_true, Int.toNat_natCast, zV C k hkl, rd6, hbk, List.length_map, znU, h17, zp (show k < 1000000 by omega)]
  exact r1
theorem zB9 {T : Int} {m e : Nat} {C : List (List RT7)} (hC : CG T m e C) (he : e <= 500) (hm : m <= 100) (hT : T <= 18014398509481984) (s : Int) : zax 600 (zD C, s) = some ((atE C s).map zB) := by
 have hle := hC.le
 have hV := zfF hT he hm hC
 have h1 := zCa hC he hm s C.length 0 600 [] (by omega) (by omega) (by simp)
 replace h1 : (jF 600).L 600 (zD C, (C.length : Int), 0, s, []) = _ := h1
 rw [List.drop_zero, List.nil_append] at h1
 simp only [zax, FSpec.d, zd4, hV, Bool.not_true, zS, zws, h1]
structure Ext (C D : List (List RT7)) (s : Int) : Prop where
 le : C.length <= D.length
 old : ∀ i (h : i < C.length) (h' : i < D.length), D[i] = C[i] \/ ∃ v, D[i] = C[i] ++ [v] /\ s < atV v
 new : ∀ i (h : i < D.length), C.length <= i -> ∃ v, D[i] = [v] /\ s < atV v
theorem Ext.at {C D : List (List RT7)} {s : Int} (h : Ext C D s) : atE D s = atE C s := by
 have h1 : D = D.take C.length ++ D.drop C.length := (List.take_append_drop _ _).symm
 rw [h1]
 unfold atE
 rw [List.flatMap_append]
 have h2 : (D.drop C.length).flatMap (fun x => atN x s x.length) = [] := by
  rw [List.flatMap_eq_nil_iff]
  intro x hx
  obtain ⟨i, hi, rfl⟩ := List.getElem_of_mem hx
  rw [List.getElem_drop]
  simp at hi
  obtain ⟨v, e, hv⟩ := h.new (C.length + i) (by omega) (by omega)
  rw [e]
  have := zp7 [] hv
  exact this
 rw [h2, List.append_nil]
 have h3 : (D.take C.length).map (fun x => atN x s x.length) = C.map (fun x => atN x s x.length) := by
  have hle := h.le
  refine List.ext_getElem (by simp; omega) fun i a b => ?_
  simp at a b
  rw [List.getElem_map, List.getElem_map, List.getElem_take]
  rcases h.old i (by omega) (by omega) with e | ⟨v, e, hv⟩
  ·rw [e]
  ·rw [e]; exact zp7 _ hv
 rw [List.flatMap_def, List.flatMap_def, h3]
end Go.Proofs.YthdgnfcbehcplaaGreatDoor
end
section
namespace Go.Proofs.YthdgnfcbehcplaaGreatDoor
theorem d4 (v : RT7) : zgT ((zK v).drop 4) = some (evV v) := rfl
theorem zzX {T : Int} {n i m : Nat} {x : List RT7} (h : XG T n i m x) (hm : m <= 100) (X Y : List (List AV)) (i : Int) : ∀ (d k f : Nat), k + d = x.length -> d < f -> (ZR 600).L f (x.map zK, x.map zK, i, (k : Int), X, Y) = some (.inr (i, X, Y)) := by
 have hxl := h.le
 intro d
 induction d with
 | zero =>
  intro k f hk hf
  obtain ⟨f, rfl⟩ := pS hf
  show (ZR 600).b _ _ ((ZR 600).L f) some = _
  have e2 : decide ((k : Int) < (x.length : Int)) = false := dF (by omega)
  simp only [ZR]
  simp only [List.length_map, e2]
 | succ d ih =>
  intro k f hk hf
  obtain ⟨f, rfl⟩ := pS hf
  have hkl : k < x.length := by omega
  have r1 := ih (k + 1) f (by omega) (by omega)
  show (ZR 600).b _ _ ((ZR 600).L f) some = _
  generalize (ZR 600).L f = Lf at r1 |-
  have e2 : decide ((k : Int) < (x.length : Int)) = true := dT (by omega)
  have h0 : 0 <= (k : Int) := by omega
  obtain ⟨b, q1, q2⟩ := zf6 (evV x[k]) (evV x[k]) (h.vs k hkl).ev.pk (h.vs k hkl).ev.pk
  rw [q2.2 rfl] at q1
  have a0 : ((zK x[k]).drop 0)[0]? = some (AV.v (.int .i64 x[k].1)) := rfl
  have a1 : ((zK x[k]).drop 1)[0]? = some (AV.v (.int .i64 x[k].2.1)) := rfl
  have a2 : ((zK x[k]).drop 2)[0]? = some (AV.v (.string x[k].2.2.1)) := rfl
  have a3 : ((zK x[k]).drop 3)[0]? = some (AV.v (.int .i64 x[k].2.2.2.1)) := rfl
  simp only [ZR]
  simp only [List.length_map, e2, h0, if_true, Int.toNat_natCast, zqs x k hkl, a0, a1, a2, a3, d4, bne_self_eq_false, beq_self_eq_true, Bool.not_true, q1, zp (show k < 1000000 by omega)]
  exact r1
theorem zvI {T : Int} {n i m : Nat} {x : List RT7} (h : XG T n i m x) (hm : m <= 100) : zx6 600 ([zfa x], [zfa x]) = some true := by
 have hxl := h.le
 have s1 := zzX h hm [zfa x] [zfa x] 0 x.length 0 600 (by omega) (by omega)
 replace s1 : (ZR 600).L 600 (x.map zK, x.map zK, 0, 0, [zfa x], [zfa x]) = _ := s1
 have g0 : ([zfa x] : List (List AV))[(0 : Int).toNat]? = some (zfa x) := rfl
 have z0 : (0 : Int) <= 0 := by omega
 have i1 : i64 (0 + 1) = 1 := by decide
 have c0 : decide ((0 : Int) < ((1 : Nat) : Int)) = true := by decide
 have c1 : decide ((1 : Int) < ((1 : Nat) : Int)) = false := by decide
 have hz : (jV 600).L 599 (1, [zfa x], [zfa x]) = some (.inr ()) := by
  show (jV 600).b _ _ ((jV 600).L 598) some = _
  simp only [jV]
  simp only [List.length_cons, List.length_nil, Nat.zero_add, c1]
 have h1 : zwm 600 (0, [zfa x], [zfa x]) = some (.inr ()) := by
  show (jV 600).b _ _ ((jV 600).L 599) some = _
  generalize (jV 600).L 599 = Lf at hz |-
  simp only [jV]
  simp only [List.length_cons, List.length_nil, Nat.zero_add, c0, z0, if_true, g0, zhv, zqG, List.length_map, bne_self_eq_false, znx, s1, i1]
  exact hz
 simp only [zx6, FSpec.d, zd1, bne_self_eq_false]
 simp only [h1]
theorem zqB {T : Int} {m e : Nat} {C D : List (List RT7)} {s : Int} (hC : CG T m e C) (he : e <= 500) (hm : m <= 100) (hE : Ext C D s) (now : Int) : ∀ (d k f : Nat), k + d = C.length -> d < f -> (jX 600).L f (now, (C.length : Int), (k : Int), zD C, zD D) = some (.inr (now, zD C, zD D)) := by
 have hle := hC.le
 have hCD := hE.le
 intro d
 induction d with
 | zero =>
  intro k f hk hf
  obtain ⟨f, rfl⟩ := pS hf
  show (jX 600).b _ _ ((jX 600).L f) some = _
  have e2 : decide ((k : Int) < (C.length : Int)) = false := dF (by omega)
  simp only [jX]
  simp only [e2]
 | succ d ih =>
  intro k f hk hf
  obtain ⟨f, rfl⟩ := pS hf
  have hkl : k < C.length := by omega
  have hkd : k < D.length := by omega
  have hx := hC.xs k hkl
  have hxl := hx.le
  have r1 := ih (k + 1) f (by omega) (by omega)
  have hpre : C[k].length <= D[k].length /\ (D[k].map zK).take C[k].length = C[k].map zK := by
   rcases hE.old k hkl hkd with e | ⟨v, e, _⟩
   ·rw [e]; exact ⟨Nat.le_refl _, List.take_of_length_le (by simp)⟩
   ·rw [e]
    refine ⟨by simp, ?_⟩
    rw [List.map_append, List.take_append_of_le_length (by simp), List.take_of_length_le (by simp)]
  have hsub : ((zD C).take (k + 1)).drop k = [zfa C[k]] := by
   have : (C.take (k + 1)).drop k = [C[k]] := by
    rw [<- List.take_append_getElem hkl, List.drop_append_of_le_length (by simp; omega), List.drop_eq_nil_of_le (by simp; omega)]
    rfl
   unfold zD
   rw [<- List.map_take, <- List.map_drop, this]
   rfl
  have hs := zvI hx hm
  show (jX 600).b _ _ ((jX 600).L f) some = _
  generalize (jX 600).L f = Lf at r1 |-
  have e2 : decide ((k : Int) < (C.length : Int)) = true := dT (by omega)
  have h0 : 0 <= (k : Int) := by omega
  have n1 := zp (show k < 1000000 by omega)
  have c1 : decide ((D[k].length : Int) < (C[k].length : Int)) = false := dF (by omega)
  have c2 : (0 <= (C[k].length : Int) /\ (C[k].length : Int) <= (D[k].length : Int)) := by omega
  have c3 : (True /\ (k : Int) <= ((k + 1 : Nat) : Int) /\ ((k + 1 : Nat) : Int) <= (C.length : Int)) := ⟨trivial, by omega, by omega⟩
  have hrow : [[AV.list 29 (C[k].map zK) none]] = [zfa C[k]] := rfl
  simp only [jX]
  simp only [e2, h0, if_true, Int.toNat_natCast, zV C k hkl, zV D k hkd, zhv, zqG, List.length_map, c1, n1, zS, hpre.2, hsub, hrow, hs, Bool.not_true]
  rw [if_pos c2]
  exact (if_pos c3).trans r1
end Go.Proofs.YthdgnfcbehcplaaGreatDoor
end
section
namespace Go.Proofs.YthdgnfcbehcplaaGreatDoor
theorem zzA {A : List RT0} {t : Int} {u v : RT7} {k : Int} (h : zcx A t u k = some v) : atV v = t := by
 unfold zcx at h
 split at h
 ·split at h
  ·split at h
   ·cases h
   ·rw [<- Option.some.inj h]; rfl
  ·split at h
   ·cases h
   ·rw [<- Option.some.inj h]; rfl
 ·cases h
theorem zzj {C : List (List RT7)} (id : Nat) (hid : id < C.length) {v : RT7} {s : Int} (h : s < atV v) : Ext C (C.set id (C[id] ++ [v])) s := by
 refine ⟨by simp, fun i hi hi' => ?_, fun i hi hl => by simp at hi; omega⟩
 rw [List.getElem_set]
 split
 ·rename_i e; subst e; exact .inr ⟨v, rfl, h⟩
 ·exact .inl rfl
theorem zzi {C : List (List RT7)} {A : List RT0} {L : List Int} {t s : Int} (hL : L.length = C.length) (h : s < t) : Ext C (zhH C A L t) s := by
 refine ⟨zvA hL, fun i hi hi' => ?_, fun i hi hl => ?_⟩
 ·rw [zvz hL i hi hi']
  unfold zcL
  split
  ·split
   ·rename_i v hv
    exact .inr ⟨v, rfl, by rw [zzA hv]; exact h⟩
   ·exact .inl rfl
  ·exact .inl rfl
 ·have e : (zhH C A L t)[i] = _ := zB5 (List.zipWith (zcL A t) C L) _ i (by rw [zdZ hL]; exact hl) hi
  have hm : (zhH C A L t)[i] ∈ news t A (tkF (List.replicate A.length false) L) := by
   rw [e]; exact List.getElem_mem _
  obtain ⟨a, _, ha⟩ := zcG hm
  exact ⟨_, ha, h⟩
theorem zxk {T : Int} {n i m0 : Nat} {x : List RT7} (h : XG T n i m0 x) (s : Int) : ∀ m, m <= x.length -> ∀ e ∈ atN x s m, zaG e
 | 0, _, e, he => by cases he
 | m + 1, hm, e, he => by
  simp only [atN, List.getElem?_eq_getElem (show m < x.length by omega)] at he
  split at he
  ·split at he
   ·rw [List.mem_singleton.1 he]; exact (h.vs m (by omega)).ev.pk
   ·cases he
  ·exact zxk h s m (by omega) e he
theorem zB8 {T : Int} {m e : Nat} {C : List (List RT7)} (hC : CG T m e C) (s : Int) : ∀ a ∈ atE C s, zaG a := fun a ha => by
 obtain ⟨x, hx, ha⟩ := List.mem_flatMap.1 ha
 obtain ⟨i, hi, rfl⟩ := List.getElem_of_mem hx
 exact zxk (hC.xs i hi) s _ (Nat.le_refl _) a ha
theorem zB7 (C : List (List RT7)) (s : Int) : (atE C s).length <= C.length := by
 induction C with
 | nil => exact Nat.le_refl _
 | cons x C ih =>
  have h := zp6 x s x.length
  have e : atE (x :: C) s = atN x s x.length ++ atE C s := rfl
  rw [e, List.length_append, List.length_cons]
  omega
theorem sol9 (e : RT0) : zEz ((zB e).drop 9) = some (zH e) := rfl
theorem zCS (A : List RT0) (hA : A.length <= 500) (hp : ∀ a ∈ A, zaG a) : zhL 600 (A.map zB, A.map zB) = some true := by
 have key : ∀ (d k f : Nat), k + d = A.length -> d < f -> (jE 600).L f (A.map zB, A.map zB, (k : Int)) = some (.inr ()) := by
  intro d
  induction d with
  | zero =>
   intro k f hk hf
   obtain ⟨f, rfl⟩ := pS hf
   show (jE 600).b _ _ ((jE 600).L f) some = _
   have e2 : decide ((k : Int) < (A.length : Int)) = false := dF (by omega)
   simp only [jE]
   simp only [List.length_map, e2]
  | succ d ih =>
   intro k f hk hf
   obtain ⟨f, rfl⟩ := pS hf
   have hkl : k < A.length := by omega
   have r1 := ih (k + 1) f (by omega) (by omega)
   have hpk := hp _ (List.getElem_mem hkl)
   obtain ⟨b, q1, q2⟩ := zjU A[k] A[k] hpk hpk
   rw [q2.2 rfl] at q1
   have ee := JZ (nmE A[k])
   simp only [eqP] at ee
   show (jE 600).b _ _ ((jE 600).L f) some = _
   generalize (jE 600).L f = Lf at r1 |-
   have e2 : decide ((k : Int) < (A.length : Int)) = true := dT (by omega)
   have h0 : 0 <= (k : Int) := by omega
   simp only [jE]
   simp only [List.length_map, e2, h0, if_true, Int.toNat_natCast, zcv A k hkl, nm0, ee, Bool.not_true, sol9, q1, zp (show k < 1000000 by omega)]
   exact r1
 have h1 := key A.length 0 600 (by omega) (by omega)
 replace h1 : (jE 600).L 600 (A.map zB, A.map zB, 0) = some (.inr ()) := h1
 simp only [zhL, FSpec.d, zkC, bne_self_eq_false, zwr, h1]
@[reducible] def zCC : RT0 := (AB, st 0, LC, CH, 1000, 0, 0, 0, 0, [zy (AB, st 0, LC, CH, 1000, 0, 0, 0, 0, ())], 0, 0, 0, 0, 0, 0, 0, 0, 0, 0, 0, 0, 0, 0, 0, ())
theorem zCD : zrM 600 () = some zCC := by kernel_rfl
theorem zEO : EvG zCC := ⟨by kernel_rfl, by kernel_rfl, ⟨[(AB, st 0, LC, CH, 1000, 0, 0, 0, 0, ())], by simp, rfl⟩⟩
structure Gd (C : List (List RT7)) (now : Int) (d : List (List AV)) : Prop where
 v : zcZ 600 d = some true
 l : decide ((d.length : Int) < (C.length : Int)) = false
 k : zeG 600 (now, (C.length : Int), 0, zD C, d) = some (.inr (now, zD C, d))
 a : zax 600 (d, now - 1) = some ((atE C (now - 1)).map zB)
theorem zCo {T now : Int} {m e m' e' : Nat} {C D : List (List RT7)} (hC : CG T m e C) (hm : m <= 100) (he : e <= 500) (hD : CG now m' e' D) (hm' : m' <= 100) (he' : e' <= 500) (hn : now <= 18014398509481984) (hE : Ext C D (now - 1)) : Gd C now (zD D) := by
 have hle := hC.le
 have hCD := hE.le
 have h1 := zqB hC he hm hE now C.length 0 600 (by omega) (by omega)
 refine ⟨zfF hn he' hm' hD, by rw [decide_eq_false_iff_not, zS]; omega, h1, ?_⟩
 rw [zB9 hD he' hm' hn, hE.at]
theorem zzq (xs : List Int) : zEV 600 (zF xs) = some true := by
 obtain ⟨n1, D0⟩ := zCA 600 xs
 obtain ⟨a, p1, g1, m1, D1⟩ := zcF 600 (n := 8) (by omega) D0
 obtain ⟨k, rfl⟩ : ∃ k : Nat, a = (k : Int) := ⟨a.toNat, by omega⟩
 obtain ⟨C, t, p2, g2, D2, t1, t2, hC⟩ := zvd D1 k (by omega)
 have hle := hC.le
 obtain ⟨b, p3, g3, m3, D3⟩ := zcF 600 (n := 50) (by omega) D2
 obtain ⟨mx, hmx⟩ : ∃ mx : Int, mx = if (C.length : Int) > 1 then (C.length : Int) else 1 := ⟨_, rfl⟩
 have hmx' : 1 <= mx /\ mx <= 1000 := by rw [hmx]; split <;> omega
 obtain ⟨c, p4, g4, m4, D4⟩ := zcF 600 (n := mx) (by omega) D3
 obtain ⟨id, rfl⟩ : ∃ id : Nat, c = (id : Int) := ⟨c.toNat, by omega⟩
 obtain ⟨q, p5, g5, m5, D5⟩ := zcF 600 (n := 5) (by omega) D4
 have i1 : i64 (t + 1) = t + 1 := Zr (by omega)
 obtain ⟨now, hnow⟩ : ∃ now, now = t + 1 + b := ⟨_, rfl⟩
 have i2 : i64 now = now := Zr (by omega)
 have i3 : i64 (now - 1) = now - 1 := Zr (by omega)
 have hAt := zB9 hC (by omega) (by omega) (by omega) (now - 1)
 have hSame := zCS (atE C (now - 1)) (by have := zB7 C (now - 1); omega) (zB8 hC (now - 1))
 have z1 : ((0 : Int) != 0) = false := by decide
 have z0 : ((([] : List (List AV)).length : Int) == 0) = true := by decide
 have fin : ∀ (k' : Int) (b' : ByteArray) (to : Int) (e1 : RT0), Say k' b' to e1 -> ∃ d y, Jy 600 (zD C, (id : Int), (k', now, b', to, e1)) = some (d, y) /\ ((y ≠ 0 /\ d = []) \/ (y = 0 /\ Gd C now d)) := fun k' b' to e1 hs => by
  obtain ⟨d, y, h1, h2⟩ := zB3 hC (by omega) (by omega) (show t <= now by omega) (by omega) (by omega) hs id
  refine ⟨d, y, h1, ?_⟩
  rcases h2 with ⟨h2, h3, _⟩ | ⟨h2, hid, hne, hto, hr, rfl⟩
  ·exact .inl ⟨h2, h3⟩
  ·obtain ⟨_, hg⟩ := zB2 hC (by omega) (by omega) (show t <= now by omega) (by omega) (by omega) hs id hid hto hr
   exact .inr ⟨h2, zCo hC (by omega) (by omega) hg (by omega) (by omega) (by omega) (zzj id hid (show now - 1 < now by omega))⟩
 simp only [zEV, FSpec.d, zAa]
 simp only [n1, f8a, g1, f7a, g2, g3, zS, <- hmx, g4, g5, i1, i2, <- hnow]
 rcases (show q = 0 \/ q = 1 \/ q = 2 \/ q = 3 \/ 4 <= q by omega) with rfl | rfl | rfl | rfl | h4
 ·have y0 : ((0 : Int) == 0) = true := by decide
  obtain ⟨d, y, h1, h2⟩ := fin 3 ann 0 zCC ⟨.inl rfl, .inl rfl, fun _ => zEO, fun _ => rfl, Int.le_refl _⟩
  have hact : zrs 600 (zD C, (id : Int), (⟨#[97, 110, 110]⟩ : ByteArray), zCC, now) = some (d, y) := (zvD C (id : Int) ann zCC now).trans h1
  simp only [y0, zCD, hact]
  rcases h2 with ⟨h2, rfl⟩ | ⟨rfl, h2⟩
  ·have hy : (y != 0) = true := by simp [h2]
   simp only [hy, z0, jP]
  ·simp only [z1, h2.v, Bool.not_true, h2.l, h2.k, i3, h2.a, hAt, hSame, jP]
 ·have y0 : ((1 : Int) == 0) = false := by decide
  have y1 : ((1 : Int) == 1) = true := by decide
  obtain ⟨d, y, h1, h2⟩ := fin 4 bob 0 zE ⟨.inr (.inl rfl), .inr rfl, fun h => (by cases h), fun _ => rfl, Int.le_refl _⟩
  have hact : zxU 600 (zD C, (id : Int), (⟨#[98, 111, 98]⟩ : ByteArray), now) = some (d, y) := (zu4 C (id : Int) bob now).trans h1
  simp only [y0, y1, hact]
  rcases h2 with ⟨h2, rfl⟩ | ⟨rfl, h2⟩
  ·have hy : (y != 0) = true := by simp [h2]
   simp only [hy, z0, jP]
  ·simp only [z1, h2.v, Bool.not_true, h2.l, h2.k, i3, h2.a, hAt, hSame, jP]
 ·have y0 : ((2 : Int) == 0) = false := by decide
  have y1 : ((2 : Int) == 1) = false := by decide
  have y2 : ((2 : Int) == 2) = true := by decide
  obtain ⟨d, y, h1, h2⟩ := fin 5 ann 0 zE ⟨.inr (.inr (.inl rfl)), .inl rfl, fun h => (by cases h), fun h => absurd rfl h, Int.le_refl _⟩
  have hact : zxY 600 (zD C, (id : Int), 0, (⟨#[97, 110, 110]⟩ : ByteArray), now) = some (d, y) := (zzv C (id : Int) 0 ann now).trans h1
  simp only [y0, y1, y2, hact]
  rcases h2 with ⟨h2, rfl⟩ | ⟨rfl, h2⟩
  ·have hy : (y != 0) = true := by simp [h2]
   simp only [hy, z0, jP]
  ·simp only [z1, h2.v, Bool.not_true, h2.l, h2.k, i3, h2.a, hAt, hSame, jP]
 ·have y0 : ((3 : Int) == 0) = false := by decide
  have y1 : ((3 : Int) == 1) = false := by decide
  have y2 : ((3 : Int) == 2) = false := by decide
  have y3 : ((3 : Int) == 3) = true := by decide
  obtain ⟨d, y, h1, h2⟩ := fin 6 bob 0 zE ⟨.inr (.inr (.inr rfl)), .inr rfl, fun h => (by cases h), fun _ => rfl, Int.le_refl _⟩
  have hact : zx2 600 (zD C, (id : Int), (⟨#[98, 111, 98]⟩ : ByteArray), now) = some (d, y) := (zqX C (id : Int) bob now).trans h1
  simp only [y0, y1, y2, y3, hact]
  rcases h2 with ⟨h2, rfl⟩ | ⟨rfl, h2⟩
  ·have hy : (y != 0) = true := by simp [h2]
   simp only [hy, z0, jP]
  ·simp only [z1, h2.v, Bool.not_true, h2.l, h2.k, i3, h2.a, hAt, hSame, jP]
 ·have y0 : (q == 0) = false := by rw [beq_eq_false_iff_ne]; omega
  have y1 : (q == 1) = false := by rw [beq_eq_false_iff_ne]; omega
  have y2 : (q == 2) = false := by rw [beq_eq_false_iff_ne]; omega
  have y3 : (q == 3) = false := by rw [beq_eq_false_iff_ne]; omega
  obtain ⟨A, p6, g6, l6, v6, D6⟩ := zqi 4 (by omega) D5
  replace g6 : zgv 600 (4, zF (xs.take 2000), p5) = some (A.map zB, zF (xs.take 2000), p6) := g6
  obtain ⟨L, f1, f2, f3, f4⟩ := zqS hC (by omega) v6 (by omega) (by omega) (show t <= now by omega) (by omega) (by omega)
  have hg := zCo hC (by omega) (by omega) f4 (by omega) (by omega) (by omega) (zzi f2.inv.1 (show now - 1 < now by omega))
  simp only [y0, y1, y2, y3, f9a, g6, f3, z1, hg.v, Bool.not_true, hg.l, hg.k, i3, hg.a, hAt, hSame, jP]
end Go.Proofs.YthdgnfcbehcplaaGreatDoor
end
section
namespace Go.Proofs.YthdgnfcbehcplaaGreatDoor
open Go.RowKit
def bD (bs : List Bool) : DataW Unit := .agg (bs.map fun b => .lit (.bool b))
theorem jl {enc : TypeId × Value -> Unit} {P : Program} {w : World} {base : Nat} {sp : Nat -> Bool} {held : Bool} {fuel : Nat} {t e : TypeId} {n : Nat} {cs : List Value} {bs : List Bool} {p : List MemPlace}
  (ht : P.underlying t = some (.array n e)) (he : P.underlying e = some .bool) (hce : P.cellsOf e = 1) (hct : P.cellsOf t = n)
  (h : DataW.trod enc P w base sp held fuel t cs = some (bD bs, p)) : cs = bs.map Value.bool := by
 obtain ⟨xs, m, _, hx, hl, hn, hf⟩ := DataW.trod_array ht h
 have hxs : xs.map (·.1) = bs.map fun b => (DataW.lit (.bool b) : DataW Unit) := by
  have := congrArg Prod.fst hx
  unfold bD at this
  exact (DataW.agg.inj this).symm
 have hbl : bs.length = n := by
  have := congrArg List.length hxs
  simp at this
  omega
 rw [hce] at hf
 apply List.ext_getElem?
 intro i
 by_cases hi : i < n
 ·have hxi : xs[i]? = some xs[i] := List.getElem?_eq_getElem (by omega)
  have hfi := hf i hi
  rw [hxi] at hfi
  obtain ⟨b, hc, hb⟩ := DataW.trod_bool he hfi
  have h1 : cs[i]? = some (.bool b) := by
   have := congrArg (·[0]?) hc
   simpa [List.getElem?_take, List.getElem?_drop] using this
  have h2 : (xs.map (·.1))[i]? = some (DataW.lit (.bool b) : DataW Unit) := by simp [hxi, hb]
  rw [hxs] at h2
  simp only [List.getElem?_map, Option.map_eq_some_iff, DataW.lit.injEq, Lit.bool.injEq] at h2
  obtain ⟨z', hz', rfl⟩ := h2
  simp [h1, hz']
 ·rw [List.getElem?_eq_none (by omega), List.getElem?_eq_none (by simp; omega)]
theorem zdz {enc : TypeId × Value -> Unit} {P : Program} {w : World} {base : Nat} {sp : Nat -> Bool} {held : Bool} {fuel : Nat} {t r e : TypeId} {cs : List Value} {a0 a1 a2 a3 a4 a5 a6 : List Bool} {p : List MemPlace}
  (ht : P.underlying t = some (.array 7 r)) (hr : P.underlying r = some (.array 7 e)) (he : P.underlying e = some .bool) (hce : P.cellsOf e = 1) (hcr : P.cellsOf r = 7) (hct : P.cellsOf t = 49)
  (h : DataW.trod enc P w base sp held fuel t cs = some (.agg [bD a0, bD a1, bD a2, bD a3, bD a4, bD a5, bD a6], p)) : cs = (a0 ++ a1 ++ a2 ++ a3 ++ a4 ++ a5 ++ a6).map Value.bool := by
 obtain ⟨xs, m, _, hx, hl, hn, hf⟩ := DataW.trod_array ht h
 have hxs : [bD a0, bD a1, bD a2, bD a3, bD a4, bD a5, bD a6] = xs.map (·.1) := by
  have := congrArg Prod.fst hx
  exact DataW.agg.inj this
 rw [hcr] at hf
 rw [hct] at hl
 match xs, hn, hxs, hf with
 | [x0, x1, x2, x3, x4, x5, x6], _, hxs, hf =>
  simp only [List.map_cons, List.map_nil, List.cons.injEq, and_true] at hxs
  obtain ⟨e0, e1, e2, e3, e4, e5, e6⟩ := hxs
  have g : ∀ (i : Nat) (x : DataW Unit × List MemPlace) (b : List Bool), i < 7 -> [x0, x1, x2, x3, x4, x5, x6][i]? = some x -> bD b = x.1 -> (cs.drop (i * 7)).take 7 = b.map Value.bool := fun i x b hi hx hb => by
   have h2 := hf i hi
   rw [hx] at h2
   obtain ⟨x1, x2⟩ := x
   dsimp only at hb
   subst hb
   exact jl hr he hce hcr h2
  have k0 := g 0 x0 a0 (by omega) rfl e0
  have k1 := g 1 x1 a1 (by omega) rfl e1
  have k2 := g 2 x2 a2 (by omega) rfl e2
  have k3 := g 3 x3 a3 (by omega) rfl e3
  have k4 := g 4 x4 a4 (by omega) rfl e4
  have k5 := g 5 x5 a5 (by omega) rfl e5
  have k6 := g 6 x6 a6 (by omega) rfl e6
  have s : ∀ j, cs.drop (j * 7) = (cs.drop (j * 7)).take 7 ++ cs.drop ((j + 1) * 7) := fun j => by
   rw [Nat.add_mul, Nat.one_mul, <- List.drop_drop, List.take_append_drop]
  have z : cs.drop (7 * 7) = [] := List.drop_eq_nil_of_le (by omega)
  have : cs = cs.drop (0 * 7) := rfl
  rw [this, s 0, s 1, s 2, s 3, s 4, s 5, s 6, z, k0, k1, k2, k3, k4, k5, k6]
  simp only [List.map_append, List.append_nil, List.append_assoc]
theorem zbq {W : World} {n : String} {g : Nat} (P : Program) (hn : P.globalNamed n = some g) {cs : Array Value} (h : W.var? P n = some cs) : ∃ t z, W.heap[g]? = some (.cells cs t z) := by
 unfold World.var? at h
 rw [hn] at h
 have h' : (match W.heap[g]? with | some (Obj.cells cs _ _) => some cs | _ => none) = some cs := h
 split at h'
 ·rename_i c t z hc
  cases h'
  exact ⟨t, z, hc⟩
 ·cases h'
def zCv : List (String × DataW Unit) := Rows.catalogueKeptRow.laid
theorem zz9 {W : World} (h : laidMetH Tryz.prog zCv W) : (∃ t z, W.heap[0]? = some (.cells gtab0.toArray t z)) /\ (∃ t z, W.heap[1]? = some (.cells gtab1.toArray t z)) /\ (∃ t z, W.heap[2]? = some (.cells gtab2.toArray t z)) /\ (∃ t z, W.heap[3]? = some (.cells gtab3.toArray t z)) := by
 rw [MakeChecks.laidMetH_plain _ _ _ (by kernel_rfl)] at h
 obtain ⟨ps, ⟨g1, t1, c1, f1, p1, q1, n1, y1, v1, d1, ⟨g3, t3, c3, f3, p3, q3, n3, y3, v3, d3, ⟨g0, t0, c0, f0, p0, q0, n0, y0, v0, d0, ⟨g2, t2, c2, f2, p2, q2, n2, y2, v2, d2, _, _⟩, _⟩, _⟩, _⟩, _⟩ := h
 have m1 : Tryz.prog.globalNamed "seismonet/catalogue.follows" = some 1 := by kernel_rfl
 have m3 : Tryz.prog.globalNamed "seismonet/catalogue.computed" = some 3 := by kernel_rfl
 have m0 : Tryz.prog.globalNamed "seismonet/catalogue.shown" = some 0 := by kernel_rfl
 have m2 : Tryz.prog.globalNamed "seismonet/catalogue.kept" = some 2 := by kernel_rfl
 obtain rfl := Option.some.inj (m1.symm.trans n1)
 obtain rfl := Option.some.inj (m3.symm.trans n3)
 obtain rfl := Option.some.inj (m0.symm.trans n0)
 obtain rfl := Option.some.inj (m2.symm.trans n2)
 have u1 : (Tryz.prog.globals[1]?).map (·.type) = some 102 := by kernel_rfl
 have u3 : (Tryz.prog.globals[3]?).map (·.type) = some 98 := by kernel_rfl
 have u0 : (Tryz.prog.globals[0]?).map (·.type) = some 98 := by kernel_rfl
 have u2 : (Tryz.prog.globals[2]?).map (·.type) = some 98 := by kernel_rfl
 obtain rfl := Option.some.inj (u1.symm.trans y1)
 obtain rfl := Option.some.inj (u3.symm.trans y3)
 obtain rfl := Option.some.inj (u0.symm.trans y0)
 obtain rfl := Option.some.inj (u2.symm.trans y2)
 have e4 : Tryz.prog.cellsOf 4 = 1 := by kernel_rfl
 have e86 : Tryz.prog.cellsOf 98 = 7 := by kernel_rfl
 have e94 : Tryz.prog.cellsOf 102 = 49 := by kernel_rfl
 have z0 : c0.toList = gtab0 := jl (bs := [false, true, false, true, false, false, true]) Tryz.underlying98 Tryz.underlying4 e4 e86 d0
 have z2 : c2.toList = gtab2 := jl (bs := [false, false, true, false, true, true, true]) Tryz.underlying98 Tryz.underlying4 e4 e86 d2
 have z3 : c3.toList = gtab3 := jl (bs := [false, true, true, false, false, false, false]) Tryz.underlying98 Tryz.underlying4 e4 e86 d3
 have z1 : c1.toList = gtab1 := zdz (a0 := [false, false, false, false, false, false, false]) (a1 := [false, true, true, false, false, false, true]) (a2 := [false, true, false, false, false, false, true]) (a3 := [false, true, true, true, true, true, true]) (a4 := [false, true, true, true, true, true, true]) (a5 := [false, true, true, true, true, true, true]) (a6 := [false, false, false, true, true, true, false]) Tryz.underlying102 Tryz.underlying98 Tryz.underlying4 e4 e86 e94 d1
 have w0 := zbq _ m0 v0
 have w1 := zbq _ m1 v1
 have w2 := zbq _ m2 v2
 have w3 := zbq _ m3 v3
 rw [<- z0, <- z1, <- z2, <- z3]
 exact ⟨w0, w1, w2, w3⟩
theorem zjC {W : World} {g : Nat} {cs : List Value} (h1 : ∀ x ∈ cs, ∃ b, x = Value.bool b) (hw : ∃ t z, W.heap[g]? = some (.cells cs.toArray t z)) : (∀ j, (cs.getD j (.bool true)).oneCell' = true /\ (j < cs.length -> ziv W g j = some (cs.getD j (.bool true)))) /\ (∃ (t : TypeId) (z : Nat × Nat), W.heap[g]? = some (.cells cs.toArray t z)) /\ some g ∉ ([] : List (Option Nat)) /\ ¬ InT zbs [] g := by
 refine ⟨fun j => ⟨?_, fun hj => ?_⟩, hw, fun h => (by cases h), fun ⟨t, h, _⟩ => (by cases h)⟩
 ·by_cases hj : j < cs.length
  ·rw [List.getD_eq_getElem?_getD, List.getElem?_eq_getElem hj]
   obtain ⟨b, hb⟩ := h1 _ (List.getElem_mem hj)
   rw [Option.getD_some, hb]; rfl
  ·rw [List.getD_eq_getElem?_getD, List.getElem?_eq_none (by simpa using hj)]
   rfl
 ·obtain ⟨t, z, hw⟩ := hw
  show W.cell? ⟨g, j, none⟩ = _
  rw [List.getD_eq_getElem?_getD, List.getElem?_eq_getElem hj, Option.getD_some]
  simp [World.cell?, hw, hj]
theorem zEM {W : World} (h : laidMetH Tryz.prog zCv W) : zuH (ziv W) W [] (InT zbs []) := by
 obtain ⟨w0, w1, w2, w3⟩ := zz9 h
 have hb : ∀ (l : List Bool), ∀ x ∈ l.map Value.bool, ∃ b, x = Value.bool b := fun l x hx => by
  obtain ⟨b, _, e⟩ := List.mem_map.1 hx
  exact ⟨b, e.symm⟩
 intro g cs hg
 unfold glb at hg
 split at hg
 ·cases hg; exact zjC (hb _) w0
 ·cases hg; exact zjC (hb _) w1
 ·cases hg; exact zjC (hb _) w2
 ·cases hg; exact zjC (hb _) w3
 ·cases hg
end Go.Proofs.YthdgnfcbehcplaaGreatDoor
end
section
namespace Go.Proofs.YthdgnfcbehcplaaGreatDoor
open Go.RowKit
theorem zaI (a : Option Addr) (len cap : Nat) (W : World) (w : zjd W (.slice a len cap)) (hgl : zuH (ziv W) W [] (InT zbs [])) : Calls Tryz.prog 4 #[.slice a len cap] W fun e w' => e = .returned (.bool true) /\ Below W.heap.size W w' := by
 obtain ⟨xs, hb, hl, hr⟩ := w
 refine CallOk.calls ((F4_e 600).ok (zF xs) true (zzq xs)) W _ rfl (fun i h h' => ?_) hgl
 obtain rfl : i = 0 := by have : i < 1 := h'; omega
 exact hr _ _
end Go.Proofs.YthdgnfcbehcplaaGreatDoor
end
