/- Several texts as one (written by pack.py). -/
import Derived.Test.YthdgnfcbehcplaaDoorCpE
import Derived.Test.YthdgnfcbehcplaaDoorRows
import Derived.LaidMore
import Derived.Lay
import Derived.LaidLaws
import Derived.MakeChecks
import Derived.Stop.LaidErr
import Derived.Lib.LaidTab
import Derived.OpenShut
set_option linter.unusedVariables false
set_option linter.unusedSimpArgs false
set_option linter.unnecessarySimpa false
section
namespace Go.Proofs.YthdgnfcbehcplaaDoor
theorem Kd6.comp {k : Int} (h : Kd6 k) : (k == 1 || k == 2) = true ↔ (k = 1 \/ k = 2) := by simp
theorem zq3 {T : Int} {n i : Nat} {v : RT7} (hT : T <= 18014398509481984) (h : VG T n i v) : zzn 600 (v, (i : Int), (n : Int)) = some true := by
 obtain ⟨hk, h0, hT', hb1, hb2, hi1, hi2, he⟩ := h
 obtain ⟨k1, a1, b1, i1, e1⟩ := v
 simp only [kdV, atV, byV, inV, evV] at hk h0 hT' hb1 hb2 hi1 hi2 he
 have c1 : decide (k1 < 1) = false := by rw [decide_eq_false_iff_not]; have := hk.lt; omega
 have c2 : decide (k1 > 6) = false := by rw [decide_eq_false_iff_not]; have := hk.lt; omega
 have c3 : decide (a1 < 0) = false := dF (by omega)
 have c4 : decide (a1 > 18014398509481984) = false := dF (by omega)
 have c5 : zlv 600 (zx (k1, a1, b1, i1, e1)) = some true := he.pv'
 have c6 : 0 <= k1 /\ k1 < 7 := ⟨hk.lt.1, hk.lt.2.1⟩
 have c7 := zrU hk
 simp only [zzn, FSpec.d, zkI]
 simp only [c1, c2, c3, c4, c5, Bool.not_true, c6, and_self, if_true, c7]
 have hin : ∀ (r : Bool), r = false -> True := fun _ _ => trivial
 by_cases h12 : k1 = 1 \/ k1 = 2
 ·have d1 : (k1 == 1 || k1 == 2) = true := hk.comp.2 h12
  have d2 : ((nob).toList == (⟨#[]⟩ : ByteArray).toList) = true := by kernel_rfl
  have d3 : (k1 == 5) = false := by simp; omega
  have d4 : (i1 == 0) = true := by simp [hi1 (by omega)]
  rw [hb1 h12]
  simp only [d1, d2, Bool.not_true, d3, d4]
 ·have d1 : (k1 == 1 || k1 == 2) = false := by
   cases hc : (k1 == 1 || k1 == 2) with
   | false => rfl
   | true => exact absurd (hk.comp.1 hc) h12
  have d2 := (ziU (hb2 h12)).2.1
  simp only [d1, d2, Bool.not_true, Bool.not_false]
  by_cases h5 : k1 = 5
  ·obtain ⟨p1, p2, p3⟩ := hi2 h5
   have d3 : (k1 == 5) = true := by simp [h5]
   have d4 : decide (i1 >= 0) = true := dT (by omega)
   have d5 : decide (i1 < (n : Int)) = true := dT (by omega)
   have d6 : (i1 != (i : Int)) = true := by simp [p3]
   simp only [d3, d4, d5, d6]
  ·have d3 : (k1 == 5) = false := by simp [h5]
   have d4 : (i1 == 0) = true := by simp [hi1 h5]
   simp only [d3, d4]
theorem znh {T : Int} {m e : Nat} {C : List (List RT7)} (hT : T <= 18014398509481984) (he : e <= 500) (hm : m <= 100) (hC : CG T m e C) (i : Nat) (hi : i < C.length) : ∀ (d k f : Nat), k + d = C[i].length -> d < f -> (ZS 600).L f (zG C, C[i].map zN, (i : Int), (C.length : Int), (i : Int), (C[i].length : Int), (k : Int), zG C, C[i].map zN) = some (.inr (zG C, (C.length : Int), (i : Int), zG C)) := by
 have h := hC.xs i hi
 have hle := hC.le
 have hxl := h.le
 intro d
 induction d with
 | zero =>
  intro k f hk hf
  obtain ⟨f, rfl⟩ := pS hf
  show (ZS 600).b _ _ ((ZS 600).L f) some = _
  have e2 : decide ((k : Int) < (C[i].length : Int)) = false := dF (by omega)
  simp only [ZS]
  simp only [e2]
 | succ d ih =>
  intro k f hk hf
  obtain ⟨f, rfl⟩ := pS hf
  have r1 := ih (k + 1) f (by omega) (by omega)
  show (ZS 600).b _ _ ((ZS 600).L f) some = _
  generalize (ZS 600).L f = Lf at r1 |-
  obtain ⟨x, hx⟩ : ∃ x, x = C[i] := ⟨_, rfl⟩
  rw [<- hx] at h hxl hk r1 |-
  have hkl : k < x.length := by omega
  have e2 : decide ((k : Int) < (x.length : Int)) = true := dT (by omega)
  have h0 : 0 <= (k : Int) := by omega
  have hv := h.vs k hkl
  have hs := zq3 hT hv
  have n1 := zp (show k < 1000000 by omega)
  simp only [ZS]
  simp only [e2, h0, if_true, Int.toNat_natCast, zt3 x k hkl, rd7, zS, hs, Bool.not_true, n1]
  by_cases hk0 : k = 0
  ·subst hk0
   have d6 : (((0 : Nat) : Int) == 0) = true := by decide
   simp only [d6]
   exact r1
  ·have d6 : ((k : Int) == 0) = false := by simp [hk0]
   obtain ⟨k', rfl⟩ : ∃ k', k = k' + 1 := ⟨k - 1, by omega⟩
   obtain ⟨s1, s2, s3⟩ := h.st k' hkl
   have hv' := h.vs k' (by omega)
   have d7 : i64 (((k' + 1 : Nat) : Int) - 1) = (k' : Int) := by rw [zX (by omega)]; omega
   have d8 : decide (x[k' + 1].2.1 < x[k'].2.1) = false := by rw [decide_eq_false_iff_not]; simp only [atV] at s1; omega
   have h0' : 0 <= (k' : Int) := by omega
   have q1 : 0 <= x[k' + 1].1 /\ x[k' + 1].1 < 7 := ⟨hv.kd.lt.1, hv.kd.lt.2.1⟩
   have q2 : 0 <= x[k'].1 /\ x[k'].1 < 7 := ⟨hv'.kd.lt.1, hv'.kd.lt.2.1⟩
   have t1 := zzE hv.kd hv'.kd
   have t2 := zjM hv.kd
   simp only [kdV] at t1 t2 s2
   rw [s2] at t1
   simp only [d6, d7, h0', if_true, Int.toNat_natCast, zt3 x k' (by omega), rd7, d8, q1, q2, and_self, t1, Bool.not_true, t2]
   cases hkp : zaz x[k' + 1].1 with
   | false => exact r1
   | true =>
    have s4 := s3 hkp
    obtain ⟨b, w1, w2⟩ := ziS (evV x[k' + 1]) (evV x[k']) hv.ev.pk hv'.ev.pk
    rw [w2.2 s4.symm] at w1
    replace w1 : zlO 600 (zx x[k' + 1], zx x[k']) = some true := w1
    simp only [w1, Bool.not_true]
    exact r1
theorem zkD {T : Int} {m e : Nat} {C : List (List RT7)} (hT : T <= 18014398509481984) (he : e <= 500) (hm : m <= 100) (hC : CG T m e C) : ∀ (d k f : Nat), k + d = C.length -> d < f -> (jI 600).L f (zG C, (C.length : Int), (k : Int), zG C) = some (.inr ()) := by
 have hle := hC.le
 intro d
 induction d with
 | zero =>
  intro k f hk hf
  obtain ⟨f, rfl⟩ := pS hf
  show (jI 600).b _ _ ((jI 600).L f) some = _
  have e2 : decide ((k : Int) < (C.length : Int)) = false := dF (by omega)
  simp only [jI]
  simp only [e2]
 | succ d ih =>
  intro k f hk hf
  obtain ⟨f, rfl⟩ := pS hf
  have r1 := ih (k + 1) f (by omega) (by omega)
  have hkl : k < C.length := by omega
  have h := hC.xs k hkl
  have hp := h.pos
  have hxl := h.le
  have r2 := znh hT he hm hC k hkl C[k].length 0 600 (by omega) (by omega)
  replace r2 : (ZS 600).L 600 (zG C, C[k].map zN, (k : Int), (C.length : Int), (k : Int), (C[k].length : Int), 0, zG C, C[k].map zN) = _ := r2
  show (jI 600).b _ _ ((jI 600).L f) some = _
  generalize (jI 600).L f = Lf at r1 |-
  have e2 : decide ((k : Int) < (C.length : Int)) = true := dT (by omega)
  have h0 : 0 <= (k : Int) := by omega
  have n1 := zp (show k < 1000000 by omega)
  have c1 : decide ((C[k].length : Int) < 1) = false := dF (by omega)
  have c2 : decide ((C[k].length : Int) > 100) = false := dF (by omega)
  have c3 : (C[k].map zN)[(0 : Int).toNat]? = some (zN C[k][0]) := zt3 C[k] 0 hp
  have c4 : ((zN C[k][0]).drop 0)[0]? = some (.v (.int .i64 C[k][0].1)) := rfl
  have c5 : (C[k][0].1 != 1) = false := by have := h.hd hp; simp only [kdV] at this; simp [this]
  have c6 : (0 : Int) <= 0 := by omega
  simp only [jI]
  simp only [e2, h0, if_true, Int.toNat_natCast, zT C k hkl, rd6, List.length_map, c1, c2, c6, c3, c4, c5, zpf, r2, n1]
  exact r1
theorem zmC {T : Int} {m e : Nat} {C : List (List RT7)} (hT : T <= 18014398509481984) (he : e <= 500) (hm : m <= 100) (h : CG T m e C) : zno 600 (zG C) = some true := by
 have hle := h.le
 have h1 := zkD hT he hm h C.length 0 600 (by omega) (by omega)
 replace h1 : (jI 600).L 600 (zG C, (C.length : Int), 0, zG C) = some (.inr ()) := h1
 have e2 : decide ((C.length : Int) > 500) = false := dF (by omega)
 simp only [zno, FSpec.d, zd4, zxe, zS, e2, h1]
theorem zmh {T : Int} {m e : Nat} {C : List (List RT7)} (he : e <= 500) (hm : m <= 100) (hC : CG T m e C) (i : Nat) (hi : i < C.length) : ∀ (d k f : Nat) (y : Int), k + d = C[i].length -> d < f -> y <= T -> ∃ y', (ZR 600).L f (zG C, C[i].map zN, y, (C.length : Int), (i : Int), (C[i].length : Int), (k : Int)) = some (zG C, y', (C.length : Int), (i : Int)) /\ y' <= T := by
 have h := hC.xs i hi
 have hle := hC.le
 have hxl := h.le
 intro d
 induction d with
 | zero =>
  intro k f y hk hf hy
  obtain ⟨f, rfl⟩ := pS hf
  refine ⟨y, ?_, hy⟩
  show (ZR 600).b _ _ ((ZR 600).L f) some = _
  have e2 : decide ((k : Int) < (C[i].length : Int)) = false := dF (by omega)
  simp only [ZR]
  simp only [e2]
 | succ d ih =>
  intro k f y hk hf hy
  obtain ⟨f, rfl⟩ := pS hf
  have hkl : k < C[i].length := by omega
  have hv := (h.vs k hkl).atT
  obtain ⟨y', r1, r2⟩ := ih (k + 1) f (if C[i][k].2.1 > y then C[i][k].2.1 else y) (by omega) (by omega) (by
   simp only [atV] at hv
   split <;> omega)
  refine ⟨y', ?_, r2⟩
  show (ZR 600).b _ _ ((ZR 600).L f) some = _
  generalize (ZR 600).L f = Lf at r1 |-
  have e2 : decide ((k : Int) < (C[i].length : Int)) = true := dT (by omega)
  have h0 : 0 <= (k : Int) := by omega
  simp only [ZR]
  simp only [e2, h0, if_true, Int.toNat_natCast, zt3 C[i] k hkl, rd7, zp (show k < 1000000 by omega)]
  exact r1
theorem zkc {T : Int} {m e : Nat} {C : List (List RT7)} (he : e <= 500) (hm : m <= 100) (hC : CG T m e C) : ∀ (d k f : Nat) (y : Int), k + d = C.length -> d < f -> y <= T -> ∃ y' : Int, (jL 600).L f (zG C, y, (C.length : Int), (k : Int)) = some y' /\ y' <= T := by
 have hle := hC.le
 intro d
 induction d with
 | zero =>
  intro k f y hk hf hy
  obtain ⟨f, rfl⟩ := pS hf
  refine ⟨y, ?_, hy⟩
  show (jL 600).b _ _ ((jL 600).L f) some = _
  have e2 : decide ((k : Int) < (C.length : Int)) = false := dF (by omega)
  simp only [jL]
  simp only [e2]
 | succ d ih =>
  intro k f y hk hf hy
  obtain ⟨f, rfl⟩ := pS hf
  have hkl : k < C.length := by omega
  have hxl := (hC.xs k hkl).le
  obtain ⟨y1, a1, a2⟩ := zmh he hm hC k hkl C[k].length 0 600 y (by omega) (by omega) hy
  replace a1 : (ZR 600).L 600 (zG C, C[k].map zN, y, (C.length : Int), (k : Int), (C[k].length : Int), 0) = _ := a1
  obtain ⟨y', r1, r2⟩ := ih (k + 1) f y1 (by omega) (by omega) a2
  refine ⟨y', ?_, r2⟩
  show (jL 600).b _ _ ((jL 600).L f) some = _
  generalize (jL 600).L f = Lf at r1 |-
  have e2 : decide ((k : Int) < (C.length : Int)) = true := dT (by omega)
  have h0 : 0 <= (k : Int) := by omega
  simp only [jL]
  simp only [e2, h0, if_true, Int.toNat_natCast, zT C k hkl, rd6, List.length_map, znn, a1, zp (show k < 1000000 by omega)]
  exact r1
theorem ziG {T t : Int} {m e : Nat} {C : List (List RT7)} (he : e <= 500) (hm : m <= 100) (hC : CG T m e C) (hT : T <= t) (h0 : 0 <= t) (ht : t <= 18014398509481984) (hT0 : 0 <= T) : ztU 600 (zG C, t) = some 0 := by
 have hle := hC.le
 obtain ⟨y, h1, h2⟩ := zkc he hm hC C.length 0 600 0 (by omega) (by omega) hT0
 replace h1 : (jL 600).L 600 (zG C, 0, (C.length : Int), 0) = some y := h1
 have c1 : decide (t < 0) = false := dF (by omega)
 have c2 : decide (t > 18014398509481984) = false := dF (by omega)
 have c3 : decide (t < y) = false := dF (by omega)
 simp only [ztU, FSpec.d, zea, c1, c2, c3, zBH, zdQ, zwd, zS, h1]
theorem zBm (x : List (List AV)) (h : x.length <= 100000) : zuv 600 x = some x := by
 have hb : ((([] : List (List AV)).length + x.length) * 104 <= zh) = True := by unfold zh; simp; omega
 simp only [zuv, FSpec.d, zls]
 cases x with
 | nil => simp only [hb, if_true]; exact if_pos rfl
 | cons a l => simp only [hb, if_true, List.nil_append]
theorem J2 {e : RT0} (h : zaZ e) : zdq 600 e = some e := by
 obtain ⟨P, h1, h2⟩ := h
 have hc : zuv 600 e.2.2.2.2.2.2.2.2.2.1 = some e.2.2.2.2.2.2.2.2.2.1 := zBm _ (by
  have : e.2.2.2.2.2.2.2.2.2.1 = P.map zq := h2
  rw [this]; simp; omega)
 simp only [zdq, FSpec.d, zkd, hc]
theorem zrj {T : Int} {m e : Nat} {C : List (List RT7)} (he : e <= 500) (hm : m <= 100) (hC : CG T m e C) (i : Nat) (hi : i < C.length) (X : List (List AV)) (N : Nat) (cs : List AV) (hcs : cs.map datF = cs) (j M : Nat) : ∀ (d k f : Nat), k + d = C[i].length -> d < f -> (Zs 600).L f ((C[i].take k).map zN, zG C, C[i].map zN, (C.length : Int), (i : Int), (C[i].length : Int), (k : Int), X, N, cs, j, M) = some (C[i].map zN, zG C, (C.length : Int), (i : Int), X, N, cs, j, M) := by
 have h := hC.xs i hi
 have hle := hC.le
 have hxl := h.le
 intro d
 induction d with
 | zero =>
  intro k f hk hf
  obtain ⟨f, rfl⟩ := pS hf
  show (Zs 600).b _ _ ((Zs 600).L f) some = _
  have e2 : decide ((k : Int) < (C[i].length : Int)) = false := dF (by omega)
  have e3 : C[i].take k = C[i] := List.take_of_length_le (by omega)
  simp only [Zs]
  simp only [e2, e3, hcs]
 | succ d ih =>
  intro k f hk hf
  obtain ⟨f, rfl⟩ := pS hf
  have hkl : k < C[i].length := by omega
  have r1 := ih (k + 1) f (by omega) (by omega)
  show (Zs 600).b _ _ ((Zs 600).L f) some = _
  generalize (Zs 600).L f = Lf at r1 |-
  have e2 : decide ((k : Int) < (C[i].length : Int)) = true := dT (by omega)
  have h0 : 0 <= (k : Int) := by omega
  have hc := J2 (h.vs k hkl).ev.pk
  replace hc : zdq 600 (zx C[i][k]) = some (evV C[i][k]) := hc
  have b1 : (((C[i].take k).map zN).length + 1) * 288 <= zh := by unfold zh; simp; omega
  have e3 : (C[i].take (k + 1)).map zN = (C[i].take k).map zN ++ [zN C[i][k]] := by
   rw [<- List.take_append_getElem hkl, List.map_append]; rfl
  rw [e3] at r1
  simp only [Zs]
  simp only [e2, h0, if_true, Int.toNat_natCast, zt3 C[i] k hkl, rd7, hc, hcs, zp (show k < 1000000 by omega), List.length_cons, List.length_nil, Nat.zero_add]
  exact (if_pos b1).trans r1
theorem zoM {T : Int} {m e : Nat} {C : List (List RT7)} (he : e <= 500) (hm : m <= 100) (hC : CG T m e C) (X : List (List AV)) : ∀ (d k f : Nat) (cs : List AV), k + d = C.length -> d < f -> FC (C.take k) 0 cs -> ∃ cs', (ZT 600).L f (zG C, (C.length : Int), (k : Int), X, k, cs, 0, k) = some (X, C.length, cs', 0, C.length) /\ FC C 0 cs' := by
 have hle := hC.le
 intro d
 induction d with
 | zero =>
  intro k f cs hk hf hc
  obtain ⟨f, rfl⟩ := pS hf
  obtain rfl : k = C.length := by omega
  rw [List.take_length] at hc
  refine ⟨cs, ?_, hc⟩
  show (ZT 600).b _ _ ((ZT 600).L f) some = _
  have e2 : decide ((C.length : Int) < (C.length : Int)) = false := dF (by omega)
  simp only [ZT]
  simp only [e2, hc.dF]
 | succ d ih =>
  intro k f cs hk hf hc
  obtain ⟨f, rfl⟩ := pS hf
  have hkl : k < C.length := by omega
  have hxl := (hC.xs k hkl).le
  have hn := hc.snoc C[k]
  have hlk : (C.take k).length = k := by simp; omega
  rw [hlk, List.take_append_getElem] at hn
  obtain ⟨cs', r1, r2⟩ := ih (k + 1) f _ (by omega) (by omega) hn
  have a1 := zrj he hm hC k hkl X k cs hc.dF 0 k C[k].length 0 600 (by omega) (by omega)
  replace a1 : (Zs 600).L 600 ([], zG C, C[k].map zN, (C.length : Int), (k : Int), (C[k].length : Int), 0, X, k, cs, 0, k) = _ := a1
  refine ⟨cs', ?_, r2⟩
  show (ZT 600).b _ _ ((ZT 600).L f) some = _
  generalize (ZT 600).L f = Lf at r1 |-
  have e2 : decide ((k : Int) < (C.length : Int)) = true := dT (by omega)
  have h0 : 0 <= (k : Int) := by omega
  have b2 : ((True /\ 0 <= k) /\ k * 1 <= cs.length /\ (k + 1) * 24 <= zh) = True := by rw [hc.1, hlk]; unfold zh; simp; omega
  simp only [ZT]
  simp only [e2, h0, if_true, Int.toNat_natCast, zT C k hkl, rd6, List.length_map, hc.dF, zjE, a1, b2, zp (show k < 1000000 by omega)]
  exact r1
theorem zwi {T : Int} {m e : Nat} {C : List (List RT7)} (he : e <= 500) (hm : m <= 100) (hC : CG T m e C) : ∃ cs, zjh 600 (zG C) = some (C.length, cs, 0, C.length) /\ FC C 0 cs := by
 have hle := hC.le
 obtain ⟨cs, h1, h2⟩ := zoM he hm hC [] C.length 0 600 [] (by omega) (by omega) (by simpa using FC.nil)
 refine ⟨cs, ?_, h2⟩
 replace h1 : (ZT 600).L 600 (zG C, (C.length : Int), 0, [], 0, [], 0, 0) = some ([], C.length, cs, 0, C.length) := h1
 simp only [zjh, FSpec.d, zap, zoh, zS, h1, h2.dF]
end Go.Proofs.YthdgnfcbehcplaaDoor
end
section
namespace Go.Proofs.YthdgnfcbehcplaaDoor
theorem zrq (X : List (List AV)) (i : Int) : zpp 600 (X, i) = some (decide (0 <= i /\ i < (X.length : Int))) := by
 simp only [zpp, FSpec.d, zef]
 by_cases h : 0 <= i
 ·have e : decide (i >= 0) = true := dT (by omega)
  simp only [e]; simp [h]
 ·have e : decide (i >= 0) = false := dF (by omega)
  simp only [e]; simp [h]
def Ref (k to : Int) (id : Nat) (u : RT7) : Prop := (k = 5 /\ to = (id : Int)) \/ (k = 6 /\ ZW (kdV u) = true)
theorem zyK {k t : Int} {b : ByteArray} {to : Int} {e1 : RT0} (hs : Say k b to e1) (id : Nat) (X : List (List AV)) {L : RT7} (hL : Kd6 (kdV L)) : ∃ c, zhz 600 ((id : Int), X, (k, t, b, to, e1), [], L) = some ((id : Int), c, X, (k, t, b, to, e1), [], L) /\ (c = true ↔ Ref k to id L) := by
 have hu : ∀ y, (jz 600).b ((id : Int), X, (k, t, b, to, e1), [], L) _ ((jz 600).L 599) some = y -> zhz 600 ((id : Int), X, (k, t, b, to, e1), [], L) = y := fun y h => h
 have hop := zv6 hL
 simp only [kdV] at hop
 rcases hs.kd with rfl | rfl | rfl | rfl
 ·exact ⟨false, hu _ (by kernel_rfl), by simp [Ref]⟩
 ·exact ⟨false, hu _ (by kernel_rfl), by simp [Ref]⟩
 ·by_cases c3 : to = (id : Int)
  ·refine ⟨true, hu _ ?_, by simp [Ref, c3]⟩
   have c4 : (to == (id : Int)) = true := by simp [c3]
   have c5 : ((5 : Int) == 5) = true := by decide
   simp only [jz]
   simp only [c4, c5]
  ·refine ⟨false, hu _ ?_, by simp [Ref, c3]⟩
   have c4 : (to == (id : Int)) = false := by simp [c3]
   have c5 : ((5 : Int) == 5) = true := by decide
   have c6 : ((5 : Int) == 6) = false := by decide
   simp only [jz]
   simp only [c4, c5, c6]
 ·refine ⟨ZW (kdV L), hu _ ?_, by simp [Ref]⟩
  have c5 : ((6 : Int) == 5) = false := by decide
  have c6 : ((6 : Int) == 6) = true := by decide
  simp only [jz]
  simp only [c5, c6, hop]
theorem zBq {T t : Int} {m e : Nat} {C : List (List RT7)} (hC : CG T m e C) (he : e <= 500) (hm : m < 100) (hT : T <= t) (hT0 : 0 <= T) (ht : t <= 18014398509481984) {k : Int} {b : ByteArray} {to : Int} {e1 : RT0} (hs : Say k b to e1) (id : Nat) : ∃ d y, Jy 600 (zG C, (id : Int), (k, t, b, to, e1)) = some (d, y) /\ ((y ≠ 0 /\ d = [] /\ ∀ (h : id < C.length) (hne : C[id] ≠ []), to < C.length -> y = 10 /\ Ref k to id (C[id].getLast hne)) \/ (y = 0 /\ ∃ (h : id < C.length) (hne : C[id] ≠ []), to < C.length /\ ¬ Ref k to id (C[id].getLast hne) /\ d = zG (C.set id (C[id] ++ [zgs k t b to e1 (evV (C[id].getLast hne))])))) := by
 have hle := hC.le
 have hV := zmC (by omega) he (by omega) hC
 have hP := (ziU hs.per).2.1
 have hTm := ziG he (by omega) hC hT (by omega) ht hT0
 have ht0 : 0 <= t := by omega
 have h2 : zxk 600 ((id : Int), zG C, (k, t, b, to, e1), []) = some (.inr ((id : Int), zG C, (k, t, b, to, e1), [])) := by
  show (zav 600).b _ _ ((zav 600).L 599) some = _
  simp only [zav]
  simp only [hV, hP, Bool.not_true]
  by_cases k3 : k = 3
  ·have c1 : (k == 3) = true := by simp [k3]
   have c2 : zlv 600 (zx (k, t, b, to, e1)) = some true := (hs.ev k3).pv'
   simp only [c1, c2, Bool.not_true]
  ·have c1 : (k == 3) = false := by simp [k3]
   simp only [c1]
 have hex : ∀ i : Int, zpp 600 (zG C, i) = some (decide (0 <= i /\ i < (C.length : Int))) := fun i => by rw [zrq, zS]
 have h6 : (zjd 600 ((id : Int), zG C, (k, t, b, to, e1), []) = some (.inl ((id : Int), 6, zG C, (k, t, b, to, e1), [])) /\ ¬ (id < C.length /\ to < C.length)) \/ (zjd 600 ((id : Int), zG C, (k, t, b, to, e1), []) = some (.inr ((id : Int), zG C, (k, t, b, to, e1), [])) /\ id < C.length /\ to < C.length) := by
  have hu : ∀ y, (JA 600).b ((id : Int), zG C, (k, t, b, to, e1), []) _ ((JA 600).L 599) some = y -> zjd 600 ((id : Int), zG C, (k, t, b, to, e1), []) = y := fun y h => h
  by_cases c1 : id < C.length
  case neg =>
   refine .inl ⟨hu _ ?_, fun h => c1 h.1⟩
   have d1 : decide (0 <= (id : Int) /\ (id : Int) < (C.length : Int)) = false := dF (by omega)
   simp only [JA]
   simp only [hex, d1, Bool.not_false]
  have d1 : decide (0 <= (id : Int) /\ (id : Int) < (C.length : Int)) = true := dT (by omega)
  by_cases k5 : k = 5
  ·have d2 : (k == 5) = true := by simp [k5]
   by_cases c2 : to < C.length
   ·refine .inr ⟨hu _ ?_, c1, c2⟩
    have d3 : decide (0 <= to /\ to < (C.length : Int)) = true := by rw [decide_eq_true_iff]; exact ⟨hs.to1, c2⟩
    simp only [JA]
    simp only [hex, d1, d2, d3, Bool.not_true]
   ·refine .inl ⟨hu _ ?_, fun h => c2 h.2⟩
    have d3 : decide (0 <= to /\ to < (C.length : Int)) = false := by rw [decide_eq_false_iff_not]; exact fun h => c2 h.2
    simp only [JA]
    simp only [hex, d1, d2, d3, Bool.not_true, Bool.not_false]
  ·refine .inr ⟨hu _ ?_, c1, by rw [hs.to0 k5]; omega⟩
   have d2 : (k == 5) = false := by simp [k5]
   simp only [JA]
   simp only [hex, d1, d2, Bool.not_true]
 simp only [Jy, FSpec.d, zd2, h2]
 rcases h6 with ⟨h6, c1⟩ | ⟨h6, c1, c2⟩
 ·simp only [h6]
  exact ⟨_, _, rfl, .inl ⟨by decide, rfl, fun h _ h' => absurd ⟨h, h'⟩ c1⟩⟩
 have e0 : ((0 : Int) != 0) = false := by decide
 have h0 : 0 <= (id : Int) := by omega
 have hx := hC.xs id c1
 have hxl := hx.le
 have hla := zjJ C[id] hx.ne (by omega)
 obtain ⟨L, hLd⟩ : ∃ L, L = C[id].getLast hx.ne := ⟨_, rfl⟩
 have hL := hx.last
 rw [<- hLd] at hla hL
 obtain ⟨c, h18, hc⟩ := zyK (t := t) hs id (zG C) hL.kd
 simp only [h6, hTm, e0, h0, if_true, Int.toNat_natCast, zT C id c1, rd6, hla, h18]
 cases c with
 | true => exact ⟨_, _, rfl, .inl ⟨by decide, rfl, fun _ _ _ => ⟨rfl, by rw [<- hLd]; exact hc.1 rfl⟩⟩⟩
 | false =>
 have hnr : ¬ Ref k to id L := fun h => by have := hc.2 h; cases this
 have m1 : (((C[id].map zN).length : Int) == 100) = false := by simp; omega
 have hkd : Kd6 k := by have := hs.kd; unfold Kd6; omega
 have q7 : 0 <= k /\ k < 7 := ⟨hkd.lt.1, hkd.lt.2.1⟩
 have htk := zjM hkd
 obtain ⟨V, hVd⟩ : ∃ V, V = zgs k t b to e1 (evV L) := ⟨_, rfl⟩
 have h27 : zor 600 ((id : Int), zaz k, zG C, (k, t, b, to, e1), [], L) = some ((id : Int), zG C, V, []) := by
  show (Jo 600).b _ _ ((Jo 600).L 599) some = _
  simp only [Jo]
  rw [hVd]
  cases hkk : zaz k with
  | true => simp only [zgs, hkk, if_true]
  | false => simp only [zgs, hkk, Bool.false_eq_true, if_false]
 have hVe : zdq 600 (zx V) = some (evV V) := J2 (by
  rw [hVd]
  show zaZ (if zaz k = true then _ else _)
  rcases hs.kd with rfl | rfl | rfl | rfl
  ·rw [if_neg (by decide)]; exact (hs.ev rfl).pk
  ·rw [if_pos (by decide)]; exact hL.ev.pk
  ·rw [if_pos (by decide)]; exact hL.ev.pk
  ·rw [if_pos (by decide)]; exact hL.ev.pk)
 obtain ⟨cs, q1, q2⟩ := zwi he (by omega) hC
 obtain ⟨tk, q3, _, q4⟩ := q2.2 id c1
 rw [q4 (Nat.zero_le _)] at q3
 have hI : (id : Int) < (C.length : Int) := by omega
 have b1 : ((C[id].map zN).length + [zN V].length) * 288 <= zh := by unfold zh; simp; omega
 have b2 : id + 1 <= cs.length := by rw [q2.1]; exact c1
 have b3' : ∀ q, C.length <= (splice cs id q).length := fun q => by rw [Zf, q2.1]; omega
 have hr : (C[id].map zN) ++ [zN V] = (C[id] ++ [V]).map zN := by simp
 have hch := q2.csp id (C[id] ++ [V])
 simp only [Nat.mul_one] at hch
 simp only [h0, if_true, Int.toNat_natCast, zT C id c1, zdc, zhw, m1, q7, and_self, htk, h27, hVe, q1]
 simp only [hI, h0, q2.dJ, Nat.zero_add, Nat.mul_one, Nat.add_zero, q3, c1, and_self, if_true, Nat.zero_le, b2]
 refine ⟨_, _, (if_pos b1).trans ((if_pos (b3' _)).trans rfl), .inr ⟨rfl, trivial, hx.ne, c2, by rw [<- hLd]; exact hnr, ?_⟩⟩
 rw [<- hLd, <- hVd, <- hch, <- hr]
theorem zwL {T t : Int} {m e : Nat} {C : List (List RT7)} (hC : CG T m e C) (he : e <= 500) (hm : m < 100) (hT : T <= t) (hT0 : 0 <= T) (ht : t <= 18014398509481984) {k : Int} {b : ByteArray} {to : Int} {e1 : RT0} (hs : Say k b to e1) (id : Nat) (h : id < C.length) (hto : to < C.length) (hr : ¬ Ref k to id (C[id].getLast (hC.xs id h).ne)) : Jy 600 (zG C, (id : Int), (k, t, b, to, e1)) = some (zG (C.set id (C[id] ++ [zgs k t b to e1 (evV (C[id].getLast (hC.xs id h).ne))])), 0) /\ CG t (m + 1) e (C.set id (C[id] ++ [zgs k t b to e1 (evV (C[id].getLast (hC.xs id h).ne))])) := by
 obtain ⟨d, y, h1, h2⟩ := zBq hC he hm hT hT0 ht hs id
 rcases h2 with ⟨_, _, h2⟩ | ⟨rfl, h2⟩
 ·exact absurd (h2 h (hC.xs id h).ne hto).2 hr
 ·obtain ⟨_, _, _, _, rfl⟩ := h2
  exact ⟨h1, hC.set h hT (hs.vg (hC.xs id h) hT hto fun hk ht => hr (.inl ⟨hk, ht⟩)) (hs.stp (hC.xs id h) hT fun hk => by
   cases ho : ZW (kdV (C[id].getLast (hC.xs id h).ne)) with
   | false => rfl
   | true => exact absurd (.inr ⟨hk, ho⟩) hr)⟩
theorem zt8 (C : List (List RT7)) (id : Int) (b : ByteArray) (x : RT0) (t : Int) : zsR 600 (zG C, id, b, x, t) = Jy 600 (zG C, id, (3, t, b, 0, x)) := by
 show (match Jy 600 (zG C, id, (3, t, b, 0, x)) with | some y1 => some y1 | none => none) = _
 cases Jy 600 (zG C, id, (3, t, b, 0, x)) <;> rfl
theorem zuJ (C : List (List RT7)) (id : Int) (b : ByteArray) (t : Int) : zzH 600 (zG C, id, b, t) = Jy 600 (zG C, id, (4, t, b, 0, zE)) := by
 show (match Jy 600 (zG C, id, (4, t, b, 0, zE)) with | some y1 => some y1 | none => none) = _
 cases Jy 600 (zG C, id, (4, t, b, 0, zE)) <;> rfl
theorem zyv (C : List (List RT7)) (id to : Int) (b : ByteArray) (t : Int) : zzG 600 (zG C, id, to, b, t) = Jy 600 (zG C, id, (5, t, b, to, zE)) := by
 show (match Jy 600 (zG C, id, (5, t, b, to, zE)) with | some y1 => some y1 | none => none) = _
 cases Jy 600 (zG C, id, (5, t, b, to, zE)) <;> rfl
theorem zgK (C : List (List RT7)) (id : Int) (b : ByteArray) (t : Int) : zcG 600 (zG C, id, b, t) = Jy 600 (zG C, id, (6, t, b, 0, zE)) := by
 show (match Jy 600 (zG C, id, (6, t, b, 0, zE)) with | some y1 => some y1 | none => none) = _
 cases Jy 600 (zG C, id, (6, t, b, 0, zE)) <;> rfl
end Go.Proofs.YthdgnfcbehcplaaDoor
end
section
namespace Go.Proofs.YthdgnfcbehcplaaDoor
theorem zAJ : ∀ n : Nat, n < 64 -> zwl 600 ([[AV.v (.int .i64 (-1))]], (n : Int)) = some (n, ic (List.replicate n (-1)))
 | 0, _ => by kernel_rfl
 | 1, _ => by kernel_rfl
 | 2, _ => by kernel_rfl
 | 3, _ => by kernel_rfl
 | 4, _ => by kernel_rfl
 | 5, _ => by kernel_rfl
 | 6, _ => by kernel_rfl
 | 7, _ => by kernel_rfl
 | 8, _ => by kernel_rfl
 | 9, _ => by kernel_rfl
 | 10, _ => by kernel_rfl
 | 11, _ => by kernel_rfl
 | 12, _ => by kernel_rfl
 | 13, _ => by kernel_rfl
 | 14, _ => by kernel_rfl
 | 15, _ => by kernel_rfl
 | 16, _ => by kernel_rfl
 | 17, _ => by kernel_rfl
 | 18, _ => by kernel_rfl
 | 19, _ => by kernel_rfl
 | 20, _ => by kernel_rfl
 | 21, _ => by kernel_rfl
 | 22, _ => by kernel_rfl
 | 23, _ => by kernel_rfl
 | 24, _ => by kernel_rfl
 | 25, _ => by kernel_rfl
 | 26, _ => by kernel_rfl
 | 27, _ => by kernel_rfl
 | 28, _ => by kernel_rfl
 | 29, _ => by kernel_rfl
 | 30, _ => by kernel_rfl
 | 31, _ => by kernel_rfl
 | 32, _ => by kernel_rfl
 | 33, _ => by kernel_rfl
 | 34, _ => by kernel_rfl
 | 35, _ => by kernel_rfl
 | 36, _ => by kernel_rfl
 | 37, _ => by kernel_rfl
 | 38, _ => by kernel_rfl
 | 39, _ => by kernel_rfl
 | 40, _ => by kernel_rfl
 | 41, _ => by kernel_rfl
 | 42, _ => by kernel_rfl
 | 43, _ => by kernel_rfl
 | 44, _ => by kernel_rfl
 | 45, _ => by kernel_rfl
 | 46, _ => by kernel_rfl
 | 47, _ => by kernel_rfl
 | 48, _ => by kernel_rfl
 | 49, _ => by kernel_rfl
 | 50, _ => by kernel_rfl
 | 51, _ => by kernel_rfl
 | 52, _ => by kernel_rfl
 | 53, _ => by kernel_rfl
 | 54, _ => by kernel_rfl
 | 55, _ => by kernel_rfl
 | 56, _ => by kernel_rfl
 | 57, _ => by kernel_rfl
 | 58, _ => by kernel_rfl
 | 59, _ => by kernel_rfl
 | 60, _ => by kernel_rfl
 | 61, _ => by kernel_rfl
 | 62, _ => by kernel_rfl
 | 63, _ => by kernel_rfl
 | n + 64, h => absurd h (by omega)
def bc (L : List Bool) : List AV := L.map fun x => AV.v (.bool x)
theorem zqg (L : List Bool) : (bc L).length = L.length := by simp [bc]
theorem zbE (L : List Bool) (k : Nat) (h : k < L.length) : (bc L)[k]? = some (AV.v (.bool L[k])) := by simp [bc, h]
theorem zW (L : List Bool) : (bc L).map dat0 = bc L := by simp only [bc, List.map_map]; rfl
theorem zme (L : List Bool) (k : Nat) (y : Bool) : splice (bc L) k [AV.v (.bool y)] = bc (L.set k y) := by
 show (bc L).set k _ = _
 simp [bc, List.map_set]
theorem zwj (n : Nat) : List.replicate n (AV.v (.bool false)) = bc (List.replicate n false) := by simp [bc]
theorem zzy (L : List Int) : zK ((ic L).take (L.length * 1)) 1 L.length = zA L := by
 rw [Nat.mul_one, List.take_of_length_le (by rw [zeg]; exact Nat.le_refl _)]
 induction L with
 | nil => rfl
 | cons x L ih =>
  show _ :: _ = _ :: _
  congr 1
def Hit (M : RT0 -> RT0 -> Prop) (A : List RT0) (tk : List Bool) (a : RT0) (k j : Nat) : Prop := ∃ (h : j < A.length) (h' : j < tk.length), k <= j /\ tk[j] = false /\ M a A[j] /\ ∀ i (hi : i < A.length) (hi' : i < tk.length), k <= i -> i < j -> tk[i] = false -> ¬ M a A[i]
def zA0 (M : RT0 -> RT0 -> Prop) (A : List RT0) (tk : List Bool) (a : RT0) (k : Nat) : Prop := ∀ i (hi : i < A.length) (hi' : i < tk.length), k <= i -> tk[i] = false -> ¬ M a A[i]
def laE (x : List RT7) : Option RT0 := x.getLast?.map evV
inductive Pass (M : RT0 -> RT0 -> Prop) (C : List (List RT7)) (A : List RT0) : Nat -> List Int -> List Bool -> List Int -> List Bool -> Prop
 | done {k : Nat} {o : List Int} {t : List Bool} : C.length <= k -> Pass M C A k o t o t
 | skip {k : Nat} {o o' : List Int} {t t' : List Bool} : k < C.length -> (∀ h : k < o.length, 0 <= o[k]) -> Pass M C A (k + 1) o t o' t' -> Pass M C A k o t o' t'
 | hit {k j : Nat} {o o' : List Int} {t t' : List Bool} {a : RT0} (h : k < C.length) : (∀ h : k < o.length, o[k] < 0) -> laE C[k] = some a -> Hit M A t a 0 j -> Pass M C A (k + 1) (o.set k (j : Int)) (t.set j true) o' t' -> Pass M C A k o t o' t'
 | miss {k : Nat} {o o' : List Int} {t t' : List Bool} {a : RT0} (h : k < C.length) : (∀ h : k < o.length, o[k] < 0) -> laE C[k] = some a -> zA0 M A t a 0 -> Pass M C A (k + 1) o t o' t' -> Pass M C A k o t o' t'
theorem ziO {x : List RT7} (h : x ≠ []) : laE x = some (evV (x.getLast h)) := by
 simp [laE, List.getLast?_eq_some_getLast h]
def zdX (a e : RT0) : Prop := nmE a = nmE e
def zfM (a e : RT0) : Prop := ∃ P Q : List RT1, pkE a = P.map zq /\ pkE e = Q.map zq /\ Com P Q
theorem zCW {a e : RT0} (ha : zaZ a) (he : zaZ e) : ∃ b, zyN 600 (a, e) = some b /\ (b = true ↔ zdX a e) := by
 refine ⟨eqP (nmE a) (nmE e), rfl, fun h => zwE h, fun h => ?_⟩
 unfold zdX at h
 rw [h]; exact Jr _
theorem zEq {a e : RT0} (ha : zaZ a) (he : zaZ e) : ∃ b, zp3 600 (a, e) = some b /\ (b = true ↔ zfM a e) := by
 obtain ⟨P, hP1, hP⟩ := ha
 obtain ⟨Q, hQ1, hQ⟩ := he
 obtain ⟨b, h1, h2⟩ := znR P Q a e hP hQ (by omega) (by omega)
 refine ⟨b, h1, h2.trans ⟨fun h => ⟨P, Q, hP, hQ, h⟩, fun ⟨P', Q', h3, h4, h5⟩ => ?_⟩⟩
 rw [hP] at h3
 rw [hQ] at h4
 rw [zcw h3, zcw h4]; exact h5
theorem zAL {T : Int} {m e : Nat} {C : List (List RT7)} (he : e <= 500) (hm : m <= 100) (hC : CG T m e C) (A : List RT0) (hA : A.length <= 100) (hpk : ∀ a ∈ A, zaZ a) (i : Nat) (hi : i < C.length) (L : List Int) (hL : L.length = C.length) (t : List Bool) (ht : t.length = A.length) : ∀ (d k f : Nat), k + d = A.length -> d < f ->
  ∃ L' t', (Za 600).L f (zG C, A.map zB, (i : Int), (C.length : Int), (i : Int), (A.length : Int), (k : Int), zG C, C.length, A.map zB, A.length, ic L, bc t, C[i].map zN) = some (zG C, (C.length : Int), (i : Int), zG C, C.length, A.map zB, A.length, ic L', bc t') /\ ((∃ j, Hit zdX A t (evV (C[i].getLast (hC.xs i hi).ne)) k j /\ L' = L.set i (j : Int) /\ t' = t.set j true) \/ (zA0 zdX A t (evV (C[i].getLast (hC.xs i hi).ne)) k /\ L' = L /\ t' = t)) := by
 have hle := hC.le
 have hx := hC.xs i hi
 have hxl := hx.le
 have hla := zjJ C[i] hx.ne (by omega)
 intro d
 induction d with
 | zero =>
  intro k f hk hf
  obtain ⟨f, rfl⟩ := pS hf
  refine ⟨L, t, ?_, .inr ⟨fun j h h' hk' => by omega, rfl, rfl⟩⟩
  show (Za 600).b _ _ ((Za 600).L f) some = _
  have e2 : decide ((k : Int) < (A.length : Int)) = false := dF (by omega)
  simp only [Za]
  simp only [e2, zF, zW]
 | succ d ih =>
  intro k f hk hf
  obtain ⟨f, rfl⟩ := pS hf
  have hkl : k < A.length := by omega
  have hkt : k < t.length := by omega
  have e2 : decide ((k : Int) < (A.length : Int)) = true := dT (by omega)
  have h0 : 0 <= (k : Int) := by omega
  have h1 : (k : Int) < (A.length : Int) := by omega
  have hi0 : 0 <= (i : Int) := by omega
  have hi1 : (i : Int) < (C.length : Int) := by omega
  have n1 := zp (show k < 1000000 by omega)
  obtain ⟨L', t', r1, r2⟩ := ih (k + 1) f (by omega) (by omega)
  have hnext : t[k] = true \/ ¬ zdX (evV (C[i].getLast hx.ne)) A[k] -> ((∃ j, Hit zdX A t (evV (C[i].getLast hx.ne)) k j /\ L' = L.set i (j : Int) /\ t' = t.set j true) \/ (zA0 zdX A t (evV (C[i].getLast hx.ne)) k /\ L' = L /\ t' = t)) := fun hc => by
   rcases r2 with ⟨j, ⟨q1, q2, q3, q4, q5, q6⟩, q7⟩ | ⟨q1, q2⟩
   ·refine .inl ⟨j, ⟨q1, q2, by omega, q4, q5, fun z hz hz' h1 h2 h3 => ?_⟩, q7⟩
    by_cases e : k = z
    ·subst e
     rcases hc with hc | hc
     ·rw [h3] at hc; cases hc
     ·exact hc
    ·exact q6 z hz hz' (by omega) h2 h3
   ·refine .inr ⟨fun z hz hz' h1 h3 => ?_, q2⟩
    by_cases e : k = z
    ·subst e
     rcases hc with hc | hc
     ·rw [h3] at hc; cases hc
     ·exact hc
    ·exact q1 z hz hz' (by omega) h3
  have hM : ∃ b, zyN 600 (zx (C[i].getLast hx.ne), A[k]) = some b /\ (b = true ↔ zdX (evV (C[i].getLast hx.ne)) A[k]) := zCW hx.last.ev.pk (hpk _ (List.getElem_mem _))
  obtain ⟨b, m1, m2⟩ := hM
  cases hb : t[k] with
  | true =>
   refine ⟨L', t', ?_, hnext (.inl hb)⟩
   show (Za 600).b _ _ ((Za 600).L f) some = _
   generalize (Za 600).L f = Lf at r1 |-
   simp only [Za]
   simp only [e2, h0, h1, decide_true, and_self, if_true, Int.toNat_natCast, zcp A k hkl, ZE, Nat.zero_add, Nat.mul_one, zbE t k hkt, hb, Bool.not_true, zF, zW, n1]
   exact r1
  | false =>
   cases b with
   | false =>
    refine ⟨L', t', ?_, hnext (.inr fun h => by have := m2.2 h; cases this)⟩
    show (Za 600).b _ _ ((Za 600).L f) some = _
    generalize (Za 600).L f = Lf at r1 |-
    simp only [Za]
    simp only [e2, h0, h1, decide_true, and_self, if_true, Int.toNat_natCast, zcp A k hkl, ZE, Nat.zero_add, Nat.mul_one, zbE t k hkt, hb, Bool.not_false, hla, m1, zF, zW, n1]
    exact r1
   | true =>
    refine ⟨L.set i (k : Int), t.set k true, ?_, .inl ⟨k, ⟨hkl, hkt, Nat.le_refl _, hb, m2.1 rfl, fun z _ _ h1 h2 => by omega⟩, rfl, rfl⟩⟩
    show (Za 600).b _ _ ((Za 600).L f) some = _
    have b1 : i + 1 <= (ic L).length := by rw [zeg]; omega
    have b2 : k + 1 <= (bc t).length := by rw [zqg]; omega
    simp only [Za]
    simp only [e2, h0, h1, hi0, hi1, decide_true, and_self, if_true, Int.toNat_natCast, zcp A k hkl, ZE, Nat.zero_add, Nat.mul_one, zbE t k hkt, hb, Bool.not_false, hla, m1, b1, b2, zpk, zme, zF, zW]
theorem zzv {T : Int} {m e : Nat} {C : List (List RT7)} (he : e <= 500) (hm : m <= 100) (hC : CG T m e C) (A : List RT0) (hA : A.length <= 100) (hpk : ∀ a ∈ A, zaZ a) : ∀ (d k f : Nat) (L : List Int) (t : List Bool), k + d = C.length -> d < f -> L.length = C.length -> t.length = A.length ->
  ∃ L' t', (ZQ 600).L f (zG C, (C.length : Int), (k : Int), zG C, C.length, A.map zB, A.length, ic L, bc t) = some (zG C, C.length, A.map zB, A.length, ic L', bc t') /\ L'.length = C.length /\ t'.length = A.length /\ Pass zdX C A k L t L' t' := by
 have hle := hC.le
 intro d
 induction d with
 | zero =>
  intro k f L t hk hf hL ht
  obtain ⟨f, rfl⟩ := pS hf
  refine ⟨L, t, ?_, hL, ht, .done (by omega)⟩
  show (ZQ 600).b _ _ ((ZQ 600).L f) some = _
  have e2 : decide ((k : Int) < (C.length : Int)) = false := dF (by omega)
  simp only [ZQ]
  simp only [e2, zF, zW]
 | succ d ih =>
  intro k f L t hk hf hL ht
  obtain ⟨f, rfl⟩ := pS hf
  have hkl : k < C.length := by omega
  have hkL : k < L.length := by omega
  have hx := hC.xs k hkl
  have e2 : decide ((k : Int) < (C.length : Int)) = true := dT (by omega)
  have h0 : 0 <= (k : Int) := by omega
  have h1 : (k : Int) < (C.length : Int) := by omega
  have n1 := zp (show k < 1000000 by omega)
  by_cases hc : 0 <= L[k]
  ·obtain ⟨L', t', r1, r2, r3, r4⟩ := ih (k + 1) f L t (by omega) (by omega) hL ht
   refine ⟨L', t', ?_, r2, r3, .skip hkl (fun _ => hc) r4⟩
   show (ZQ 600).b _ _ ((ZQ 600).L f) some = _
   generalize (ZQ 600).L f = Lf at r1 |-
   have e3 : decide (L[k] >= 0) = true := dT (by omega)
   simp only [ZQ]
   simp only [e2, h0, h1, decide_true, and_self, if_true, Int.toNat_natCast, zT C k hkl, rd6, Nat.zero_add, Nat.mul_one, JQ L k hkL, e3, zF, zW, n1]
   exact r1
  ·have e3 : decide (L[k] >= 0) = false := dF (by omega)
   have hp := hx.pos
   have e4 : ((C[k].length : Int) == 0) = false := by rw [beq_eq_false_iff_ne]; omega
   obtain ⟨L1, t1, a1, a2⟩ := zAL he hm hC A hA hpk k hkl L hL t ht A.length 0 600 (by omega) (by omega)
   replace a1 : (Za 600).L 600 (zG C, A.map zB, (k : Int), (C.length : Int), (k : Int), (A.length : Int), 0, zG C, C.length, A.map zB, A.length, ic L, bc t, C[k].map zN) = _ := a1
   have hlt : L1.length = C.length /\ t1.length = A.length := by
    rcases a2 with ⟨j, _, rfl, rfl⟩ | ⟨_, rfl, rfl⟩
    ·simp [hL, ht]
    ·exact ⟨hL, ht⟩
   obtain ⟨L', t', r1, r2, r3, r4⟩ := ih (k + 1) f L1 t1 (by omega) (by omega) hlt.1 hlt.2
   refine ⟨L', t', ?_, r2, r3, ?_⟩
   ·show (ZQ 600).b _ _ ((ZQ 600).L f) some = _
    generalize (ZQ 600).L f = Lf at r1 |-
    simp only [ZQ]
    simp only [e2, h0, h1, decide_true, and_self, if_true, Int.toNat_natCast, zT C k hkl, rd6, Nat.zero_add, Nat.mul_one, JQ L k hkL, e3, zF, zW, n1, List.length_map, e4, zop, a1]
    exact r1
   ·rcases a2 with ⟨j, g, rfl, rfl⟩ | ⟨g, rfl, rfl⟩
    ·exact .hit hkl (fun _ => Int.not_le.1 hc) (ziO hx.ne) g r4
    ·exact .miss hkl (fun _ => Int.not_le.1 hc) (ziO hx.ne) g r4
theorem zBJ {T : Int} {m e : Nat} {C : List (List RT7)} (he : e <= 500) (hm : m <= 100) (hC : CG T m e C) (A : List RT0) (hA : A.length <= 100) (hpk : ∀ a ∈ A, zaZ a) (i : Nat) (hi : i < C.length) (L : List Int) (hL : L.length = C.length) (t : List Bool) (ht : t.length = A.length) : ∀ (d k f : Nat), k + d = A.length -> d < f ->
  ∃ L' t', (zV 600).L f (zG C, A.map zB, (i : Int), (C.length : Int), (i : Int), (A.length : Int), (k : Int), zG C, C.length, A.map zB, A.length, ic L, bc t, C[i].map zN) = some (zG C, (C.length : Int), (i : Int), zG C, C.length, A.map zB, A.length, ic L', bc t') /\ ((∃ j, Hit zfM A t (evV (C[i].getLast (hC.xs i hi).ne)) k j /\ L' = L.set i (j : Int) /\ t' = t.set j true) \/ (zA0 zfM A t (evV (C[i].getLast (hC.xs i hi).ne)) k /\ L' = L /\ t' = t)) := by
 have hle := hC.le
 have hx := hC.xs i hi
 have hxl := hx.le
 have hla := zjJ C[i] hx.ne (by omega)
 intro d
 induction d with
 | zero =>
  intro k f hk hf
  obtain ⟨f, rfl⟩ := pS hf
  refine ⟨L, t, ?_, .inr ⟨fun j h h' hk' => by omega, rfl, rfl⟩⟩
  show (zV 600).b _ _ ((zV 600).L f) some = _
  have e2 : decide ((k : Int) < (A.length : Int)) = false := dF (by omega)
  simp only [zV]
  simp only [e2, zF, zW]
 | succ d ih =>
  intro k f hk hf
  obtain ⟨f, rfl⟩ := pS hf
  have hkl : k < A.length := by omega
  have hkt : k < t.length := by omega
  have e2 : decide ((k : Int) < (A.length : Int)) = true := dT (by omega)
  have h0 : 0 <= (k : Int) := by omega
  have h1 : (k : Int) < (A.length : Int) := by omega
  have hi0 : 0 <= (i : Int) := by omega
  have hi1 : (i : Int) < (C.length : Int) := by omega
  have n1 := zp (show k < 1000000 by omega)
  obtain ⟨L', t', r1, r2⟩ := ih (k + 1) f (by omega) (by omega)
  have hnext : t[k] = true \/ ¬ zfM (evV (C[i].getLast hx.ne)) A[k] -> ((∃ j, Hit zfM A t (evV (C[i].getLast hx.ne)) k j /\ L' = L.set i (j : Int) /\ t' = t.set j true) \/ (zA0 zfM A t (evV (C[i].getLast hx.ne)) k /\ L' = L /\ t' = t)) := fun hc => by
   rcases r2 with ⟨j, ⟨q1, q2, q3, q4, q5, q6⟩, q7⟩ | ⟨q1, q2⟩
   ·refine .inl ⟨j, ⟨q1, q2, by omega, q4, q5, fun z hz hz' h1 h2 h3 => ?_⟩, q7⟩
    by_cases e : k = z
    ·subst e
     rcases hc with hc | hc
     ·rw [h3] at hc; cases hc
     ·exact hc
    ·exact q6 z hz hz' (by omega) h2 h3
   ·refine .inr ⟨fun z hz hz' h1 h3 => ?_, q2⟩
    by_cases e : k = z
    ·subst e
     rcases hc with hc | hc
     ·rw [h3] at hc; cases hc
     ·exact hc
    ·exact q1 z hz hz' (by omega) h3
  have hM : ∃ b, zp3 600 (zx (C[i].getLast hx.ne), A[k]) = some b /\ (b = true ↔ zfM (evV (C[i].getLast hx.ne)) A[k]) := zEq hx.last.ev.pk (hpk _ (List.getElem_mem _))
  obtain ⟨b, m1, m2⟩ := hM
  cases hb : t[k] with
  | true =>
   refine ⟨L', t', ?_, hnext (.inl hb)⟩
   show (zV 600).b _ _ ((zV 600).L f) some = _
   generalize (zV 600).L f = Lf at r1 |-
   simp only [zV]
   simp only [e2, h0, h1, decide_true, and_self, if_true, Int.toNat_natCast, zcp A k hkl, ZE, Nat.zero_add, Nat.mul_one, zbE t k hkt, hb, Bool.not_true, zF, zW, n1]
   exact r1
  | false =>
   cases b with
   | false =>
    refine ⟨L', t', ?_, hnext (.inr fun h => by have := m2.2 h; cases this)⟩
    show (zV 600).b _ _ ((zV 600).L f) some = _
    generalize (zV 600).L f = Lf at r1 |-
    simp only [zV]
    simp only [e2, h0, h1, decide_true, and_self, if_true, Int.toNat_natCast, zcp A k hkl, ZE, Nat.zero_add, Nat.mul_one, zbE t k hkt, hb, Bool.not_false, hla, m1, zF, zW, n1]
    exact r1
   | true =>
    refine ⟨L.set i (k : Int), t.set k true, ?_, .inl ⟨k, ⟨hkl, hkt, Nat.le_refl _, hb, m2.1 rfl, fun z _ _ h1 h2 => by omega⟩, rfl, rfl⟩⟩
    show (zV 600).b _ _ ((zV 600).L f) some = _
    have b1 : i + 1 <= (ic L).length := by rw [zeg]; omega
    have b2 : k + 1 <= (bc t).length := by rw [zqg]; omega
    simp only [zV]
    simp only [e2, h0, h1, hi0, hi1, decide_true, and_self, if_true, Int.toNat_natCast, zcp A k hkl, ZE, Nat.zero_add, Nat.mul_one, zbE t k hkt, hb, Bool.not_false, hla, m1, b1, b2, zpk, zme, zF, zW]
theorem zya {T : Int} {m e : Nat} {C : List (List RT7)} (he : e <= 500) (hm : m <= 100) (hC : CG T m e C) (A : List RT0) (hA : A.length <= 100) (hpk : ∀ a ∈ A, zaZ a) : ∀ (d k f : Nat) (L : List Int) (t : List Bool), k + d = C.length -> d < f -> L.length = C.length -> t.length = A.length ->
  ∃ L' t', (Zl 600).L f (zG C, (C.length : Int), (k : Int), zG C, C.length, A.map zB, A.length, ic L, bc t) = some (zG C, C.length, A.map zB, A.length, ic L', bc t') /\ L'.length = C.length /\ t'.length = A.length /\ Pass zfM C A k L t L' t' := by
 have hle := hC.le
 intro d
 induction d with
 | zero =>
  intro k f L t hk hf hL ht
  obtain ⟨f, rfl⟩ := pS hf
  refine ⟨L, t, ?_, hL, ht, .done (by omega)⟩
  show (Zl 600).b _ _ ((Zl 600).L f) some = _
  have e2 : decide ((k : Int) < (C.length : Int)) = false := dF (by omega)
  simp only [Zl]
  simp only [e2, zF, zW]
 | succ d ih =>
  intro k f L t hk hf hL ht
  obtain ⟨f, rfl⟩ := pS hf
  have hkl : k < C.length := by omega
  have hkL : k < L.length := by omega
  have hx := hC.xs k hkl
  have e2 : decide ((k : Int) < (C.length : Int)) = true := dT (by omega)
  have h0 : 0 <= (k : Int) := by omega
  have h1 : (k : Int) < (C.length : Int) := by omega
  have n1 := zp (show k < 1000000 by omega)
  by_cases hc : 0 <= L[k]
  ·obtain ⟨L', t', r1, r2, r3, r4⟩ := ih (k + 1) f L t (by omega) (by omega) hL ht
   refine ⟨L', t', ?_, r2, r3, .skip hkl (fun _ => hc) r4⟩
   show (Zl 600).b _ _ ((Zl 600).L f) some = _
   generalize (Zl 600).L f = Lf at r1 |-
   have e3 : decide (L[k] >= 0) = true := dT (by omega)
   simp only [Zl]
   simp only [e2, h0, h1, decide_true, and_self, if_true, Int.toNat_natCast, zT C k hkl, rd6, Nat.zero_add, Nat.mul_one, JQ L k hkL, e3, zF, zW, n1]
   exact r1
  ·have e3 : decide (L[k] >= 0) = false := dF (by omega)
   have hp := hx.pos
   have e4 : ((C[k].length : Int) == 0) = false := by rw [beq_eq_false_iff_ne]; omega
   obtain ⟨L1, t1, a1, a2⟩ := zBJ he hm hC A hA hpk k hkl L hL t ht A.length 0 600 (by omega) (by omega)
   replace a1 : (zV 600).L 600 (zG C, A.map zB, (k : Int), (C.length : Int), (k : Int), (A.length : Int), 0, zG C, C.length, A.map zB, A.length, ic L, bc t, C[k].map zN) = _ := a1
   have hlt : L1.length = C.length /\ t1.length = A.length := by
    rcases a2 with ⟨j, _, rfl, rfl⟩ | ⟨_, rfl, rfl⟩
    ·simp [hL, ht]
    ·exact ⟨hL, ht⟩
   obtain ⟨L', t', r1, r2, r3, r4⟩ := ih (k + 1) f L1 t1 (by omega) (by omega) hlt.1 hlt.2
   refine ⟨L', t', ?_, r2, r3, ?_⟩
   ·show (Zl 600).b _ _ ((Zl 600).L f) some = _
    generalize (Zl 600).L f = Lf at r1 |-
    simp only [Zl]
    simp only [e2, h0, h1, decide_true, and_self, if_true, Int.toNat_natCast, zT C k hkl, rd6, Nat.zero_add, Nat.mul_one, JQ L k hkL, e3, zF, zW, n1, List.length_map, e4, zjv, a1]
    exact r1
   ·rcases a2 with ⟨j, g, rfl, rfl⟩ | ⟨g, rfl, rfl⟩
    ·exact .hit hkl (fun _ => Int.not_le.1 hc) (ziO hx.ne) g r4
    ·exact .miss hkl (fun _ => Int.not_le.1 hc) (ziO hx.ne) g r4
def FolP (C : List (List RT7)) (A : List RT0) (L : List Int) : Prop := ∃ L1 t1 t2, Pass zdX C A 0 (List.replicate C.length (-1)) (List.replicate A.length false) L1 t1 /\ Pass zfM C A 0 L1 t1 L t2
theorem zuQ {T : Int} {m e : Nat} {C : List (List RT7)} (he : e <= 63) (hm : m <= 100) (hC : CG T m e C) (A : List RT0) (hA : A.length <= 100) (hpk : ∀ a ∈ A, zaZ a) : ∃ L : List Int, zsL 600 (zG C, A.map zB) = some (zA L) /\ L.length = C.length /\ FolP C A L := by
 have hle := hC.le
 have hr := zAJ C.length (by omega)
 obtain ⟨L1, t1, a1, a2, a3, a4⟩ := zzv (by omega) hm hC A hA hpk C.length 0 600 (List.replicate C.length (-1)) (List.replicate A.length false) (by omega) (by omega) (by simp) (by simp)
 replace a1 : (ZQ 600).L 600 (zG C, (C.length : Int), 0, zG C, C.length, A.map zB, A.length, ic (List.replicate C.length (-1)), bc (List.replicate A.length false)) = _ := a1
 obtain ⟨L2, t2, b1, b2, b3, b4⟩ := zya (by omega) hm hC A hA hpk C.length 0 600 L1 t1 (by omega) (by omega) a2 a3
 replace b1 : (Zl 600).L 600 (zG C, (C.length : Int), 0, zG C, C.length, A.map zB, A.length, ic L1, bc t1) = _ := b1
 have c1 : (0 <= (A.length : Int) /\ (A.length : Int) <= (A.length : Int) /\ (A.length : Int).toNat * 1 <= zh) = True := by unfold zh; simp; omega
 have c2 : C.length * 1 <= (ic L2).length := by rw [zeg]; omega
 have c3 := zzy L2
 rw [b2] at c3
 refine ⟨L2, ?_, b2, L1, t1, t2, a4, b4⟩
 have d1 : zyI 600 (zG C, C.length, A.map zB, A.length, ic (List.replicate C.length (-1)), bc (List.replicate A.length false)) = some (zG C, C.length, A.map zB, A.length, ic L1, bc t1) := by
  simp only [zyI, FSpec.d, zed, zxj, zS, zF, zW, a1]
 have d2 : zmG 600 (zG C, C.length, A.map zB, A.length, ic L1, bc t1) = some (zG C, C.length, A.map zB, A.length, ic L2, bc t2) := by
  simp only [zmG, FSpec.d, zaq, zoR, zS, zF, zW, b1]
 simp only [zsL, FSpec.d, zd3, zS, hr, List.length_map]
 rw [if_pos (of_eq_true c1)]
 simp only [Int.toNat_natCast, zwj, zF, zW, d1, d2]
 exact (if_pos c2).trans (by rw [c3])
end Go.Proofs.YthdgnfcbehcplaaDoor
end
section
namespace Go.Proofs.YthdgnfcbehcplaaDoor
noncomputable def zcv (A : List RT0) (t : Int) (x : List RT7) (k : Int) : List RT7 := match x.getLast? with
 | some u => match zcm A t u k with | some v => x ++ [v] | none => x
 | none => x
noncomputable def zhg (A : List RT0) (t : Int) : Nat -> List (List RT7) -> List Int -> List Int
 | k, x :: C, l :: L => match x.getLast? with
  | some u => match zcm A t u l with | some _ => (k : Int) :: zhg A t (k + 1) C L | none => zhg A t (k + 1) C L
  | none => zhg A t (k + 1) C L
 | _, _, _ => []
def tkF : List Bool -> List Int -> List Bool
 | t, [] => t
 | t, x :: L => tkF (if 0 <= x then t.set x.toNat true else t) L
theorem zmJ : ∀ (L : List Int) (t : List Bool), (tkF t L).length = t.length
 | [], _ => rfl
 | x :: L, t => by
  show (tkF _ L).length = _
  rw [zmJ L]
  split <;> simp
def news (t : Int) : List RT0 -> List Bool -> List (List RT7)
 | a :: A, b :: T => if b = true then news t A T else [zfW t a] :: news t A T
 | _, _ => []
theorem zo2 {x : List RT7} (h : x ≠ []) : x.getLast? = some (x.getLast h) := List.getLast?_eq_some_getLast h
theorem zyw {A : List RT0} {t : Int} {u : RT7} {z : Nat} (ho : ZW (kdV u) = true) (hz : z < A.length) (h : za7 (kdV u) = true /\ evV u = A[z]) : zcm A t u (z : Int) = none := by
 unfold zcm
 rw [if_pos ho, dif_pos ⟨by omega, by omega⟩]
 simp only [Int.toNat_natCast]
 rw [if_pos h]
theorem znM {A : List RT0} {t : Int} {u : RT7} {z : Nat} (ho : ZW (kdV u) = true) (hz : z < A.length) (h : ¬ (za7 (kdV u) = true /\ evV u = A[z])) : zcm A t u (z : Int) = some (zfW t A[z]) := by
 unfold zcm
 rw [if_pos ho, dif_pos ⟨by omega, by omega⟩]
 simp only [Int.toNat_natCast]
 rw [if_neg h]
theorem pp35 {A : List RT0} (hA : ∀ a ∈ A, EvG a) {t : Int} {u : RT7} {n0 i0 : Nat} {T : Int} (hu : VG T n0 i0 u) (ho : ZW (kdV u) = true) (z : Nat) (hz : z < A.length) (ch fl : List (List AV)) (n off N : Nat) (i lL : Int) (X : List (List AV)) (cs ci : List AV) (hcs : cs.map datF = cs) (hci : ci.map dat0 = ci) (jM : Nat × Nat) :
  (ze3 600 (ch, A.map zB, fl, t, n, i, (z : Int), off, lL, i, X, N, u, cs, ci, jM) = some (.inl (ch, A.map zB, fl, t, n, i, (z : Int), off, lL, i, X, N, cs, ci, jM)) /\ zcm A t u (z : Int) = none) \/ (ze3 600 (ch, A.map zB, fl, t, n, i, (z : Int), off, lL, i, X, N, u, cs, ci, jM) = some (.inr (ch, A.map zB, fl, t, n, i, (z : Int), off, lL, i, X, N, cs, ci, jM)) /\ zcm A t u (z : Int) = some (zfW t A[z])) := by
 have hu' : ∀ y, (jx 600).b (ch, A.map zB, fl, t, n, i, (z : Int), off, lL, i, X, N, u, cs, ci, jM) _ ((jx 600).L 599) some = y -> ze3 600 (ch, A.map zB, fl, t, n, i, (z : Int), off, lL, i, X, N, u, cs, ci, jM) = y := fun y h => h
 have hts := zsW hu.kd
 have q7 : 0 <= u.1 /\ u.1 < 7 := ⟨hu.kd.lt.1, hu.kd.lt.2.1⟩
 have hz0 : 0 <= (z : Int) := by omega
 simp only [kdV] at hts
 cases hsh : za7 u.1 with
 | false =>
  rw [hsh] at hts
  refine .inr ⟨hu' _ ?_, znM ho hz (fun h => by rw [kdV, hsh] at h; cases h.1)⟩
  simp only [jx]
  simp only [q7, and_self, if_true, hts, hcs, hci]
 | true =>
  rw [hsh] at hts
  obtain ⟨b, w1, w2⟩ := ziS (evV u) A[z] hu.ev.pk (hA _ (List.getElem_mem _)).pk
  replace w1 : zlO 600 (zx u, A[z]) = some b := w1
  cases b with
  | true =>
   refine .inl ⟨hu' _ ?_, zyw ho hz ⟨hsh, w2.1 rfl⟩⟩
   simp only [jx]
   simp only [q7, and_self, if_true, hts, hcs, hci, hz0, Int.toNat_natCast, zcp A z hz, ZE, w1]
  | false =>
   refine .inr ⟨hu' _ ?_, znM ho hz (fun h => by have := w2.2 h.2; cases this)⟩
   simp only [jx]
   simp only [q7, and_self, if_true, hts, hcs, hci, hz0, Int.toNat_natCast, zcp A z hz, ZE, w1]
theorem pp33 {A : List RT0} (hA : ∀ a ∈ A, EvG a) {t : Int} {u : RT7} {n0 i0 : Nat} {T : Int} (hu : VG T n0 i0 u) (ho : ZW (kdV u) = true) {k : Int} (hk : -1 <= k /\ k < A.length) (ch fl : List (List AV)) (n : Nat) (i : Nat) (lL : Int) (X : List (List AV)) {D : List (List RT7)} {j : Nat} {cs : List AV} (hF : FC D j cs) (hi : i < D.length) (hj : j <= i) (hl : D[i].length <= 1000) (ci : List AV) (hci : ci.map dat0 = ci) :
  (zcm A t u k = none /\ zfd 600 (ch, A.map zB, fl, t, n, (i : Int), k, i, lL, (i : Int), decide (k >= 0), X, D.length, u, cs, ci, j, D.length) = some (.inl (ch, A.map zB, fl, t, n, (i : Int), i, lL, (i : Int), X, D.length, cs, ci, j, D.length))) \/ (∃ v cs', zcm A t u k = some v /\ FC (D.set i (D[i] ++ [v])) (i + 1) cs' /\ zfd 600 (ch, A.map zB, fl, t, n, (i : Int), k, i, lL, (i : Int), decide (k >= 0), X, D.length, u, cs, ci, j, D.length) = some (.inr (ch, A.map zB, fl, t, n, (i : Int), i, lL, (i : Int), X, D.length, cs', ci, i + 1, D.length))) := by
 have hu' : ∀ y, (jm 600).b (ch, A.map zB, fl, t, n, (i : Int), k, i, lL, (i : Int), decide (k >= 0), X, D.length, u, cs, ci, j, D.length) _ ((jm 600).L 599) some = y -> zfd 600 (ch, A.map zB, fl, t, n, (i : Int), k, i, lL, (i : Int), decide (k >= 0), X, D.length, u, cs, ci, j, D.length) = y := fun y h => h
 obtain ⟨tk, q3, _, q4⟩ := hF.2 i hi
 rw [q4 hj] at q3
 have b2 : i + 1 <= cs.length := by rw [hF.1]; omega
 by_cases hk0 : 0 <= k
 ·obtain ⟨z, rfl⟩ : ∃ z : Nat, k = (z : Int) := ⟨k.toNat, by omega⟩
  have hz : z < A.length := by omega
  have e1 : decide ((z : Int) >= 0) = true := dT (by omega)
  rcases pp35 hA hu ho (t := t) z hz ch fl n i D.length (i : Int) lL X cs ci hF.dF hci (j, D.length) with ⟨p1, p2⟩ | ⟨p1, p2⟩
  ·refine .inl ⟨p2, hu' _ ?_⟩
   simp only [jm]
   simp only [e1, hF.dF, hci, p1]
  ·have hc := J2 (hA A[z] (List.getElem_mem _)).pk
   have b1 : ((D[i].map zN).length + 1) * 288 <= zh := by unfold zh; simp; omega
   refine .inr ⟨zfW t A[z], _, p2, (hF.to hj).set hi (D[i] ++ [zfW t A[z]]) (q := 7040) (by unfold TOB; omega), hu' _ ?_⟩
   simp only [jm]
   simp only [e1, hF.dF, hci, p1, Nat.add_zero, q3, hj, hi, and_self, if_true, hk0, Int.toNat_natCast, zcp A z hz, ZE, hc, b2, List.length_cons, List.length_nil, Nat.zero_add]
   refine (if_pos b1).trans ?_
   rw [List.map_append]
   rfl
 ·have e1 : decide (k >= 0) = false := dF (by omega)
  by_cases h2 : kdV u = 2
  ·have e2 : (u.1 == 2) = true := by simpa using h2
   refine .inl ⟨?_, hu' _ ?_⟩
   ·unfold zcm
    rw [if_pos ho, dif_neg (fun h => hk0 h.1), if_pos h2]
   ·simp only [jm]
    simp only [e1, e2, hF.dF, hci]
  ·have e2 : (u.1 == 2) = false := by simpa using h2
   have hc : zdq 600 (zx u) = some (evV u) := J2 hu.ev.pk
   have b1 : ((D[i].map zN).length + 1) * 288 <= zh := by unfold zh; simp; omega
   refine .inr ⟨zqE t (evV u), _, ?_, (hF.to hj).set hi (D[i] ++ [zqE t (evV u)]) (q := 4672) (by unfold TOB; omega), hu' _ ?_⟩
   ·unfold zcm
    rw [if_pos ho, dif_neg (fun h => hk0 h.1), if_neg h2]
   ·simp only [jm]
    simp only [e1, e2, hF.dF, hci, Nat.add_zero, q3, hj, hi, and_self, if_true, hc, b2, List.length_cons, List.length_nil, Nat.zero_add]
    refine (if_pos b1).trans ?_
    rw [List.map_append]
    rfl
theorem pp27 (A : List RT0) (t : Int) (u : RT7) {k : Int} (hk : -1 <= k /\ k < A.length) (ch fl : List (List AV)) (i : Nat) (lL : Int) (X : List (List AV)) (N : Nat) (cs : List AV) (hcs : cs.map datF = cs) (tk : List Bool) (ht : tk.length = A.length) (jM : Nat × Nat) :
  zma 600 (ch, A.map zB, fl, t, A.length, (i : Int), k, i, lL, (i : Int), decide (k >= 0), X, N, u, cs, bc tk, jM) = some (ch, A.map zB, fl, t, A.length, (i : Int), k, i, lL, (i : Int), X, N, u, cs, bc (if 0 <= k then tk.set k.toNat true else tk), jM) := by
 show (Jk 600).b _ _ ((Jk 600).L 599) some = _
 simp only [Jk]
 by_cases hk0 : 0 <= k
 ·have e1 : decide (k >= 0) = true := dT (by omega)
  have b1 : k.toNat + 1 <= (bc tk).length := by rw [zqg]; omega
  simp only [e1, hk0, hk.2, decide_true, ge_iff_le, and_self, if_true, Nat.zero_add, Nat.mul_one, b1, hcs, zme, zW]
 ·have e1 : decide (k >= 0) = false := dF (by omega)
  simp only [e1, hk0, ge_iff_le, decide_false, if_false, hcs, zW]
theorem rd6t (xs : List (List AV)) (t : Option Nat) (r : List AV) : zfU (AV.list 29 xs t :: r) = some (xs, ()) := by
 show dec RK6 _ = _
 simp only [dec, znx, Z1, if_true]
theorem zxC {α : Type} (P C : List α) (k : Nat) (h : P.length = k) (hk : k < C.length) (y : α) : (P ++ C.drop k).set k y = (P ++ [y]) ++ C.drop (k + 1) := by
 subst h
 rw [List.drop_eq_getElem_cons hk, List.set_append_right _ _ (Nat.le_refl _), Nat.sub_self, List.set_cons_zero, List.append_assoc, List.singleton_append]
theorem zpr {T t : Int} {m e : Nat} {C : List (List RT7)} (hC : CG T m e C) (he : e <= 500) (hm : m < 100) (A : List RT0) (hA : ∀ a ∈ A, EvG a) (L : List Int) (hL : L.length = C.length) (hr : Rg A.length L) (X : List (List AV)) : ∀ (d k f : Nat) (ch : List Int) (P : List (List RT7)) (cs : List AV) (tk : List Bool) (j : Nat), k + d = C.length -> d < f -> j <= k -> ch.length <= k -> P.length = k -> tk.length = A.length -> FC (P ++ C.drop k) j cs ->
  ∃ (cs' : List AV) (j' : Nat), (Zc 600).L f (zA ch, A.map zB, zA L, t, A.length, (C.length : Int), (k : Int), X, C.length, cs, bc tk, j, C.length) = some (.inr (zA (ch ++ zhg A t k (C.drop k) (L.drop k)), A.map zB, t, A.length, X, C.length, cs', bc (tkF tk (L.drop k)), j', C.length)) /\ FC (P ++ List.zipWith (zcv A t) (C.drop k) (L.drop k)) j' cs' := by
 have hle := hC.le
 intro d
 induction d with
 | zero =>
  intro k f ch P cs tk j hk hf hj hch hP ht hF
  obtain ⟨f, rfl⟩ := pS hf
  have d1 : C.drop k = [] := List.drop_eq_nil_of_le (by omega)
  have d2 : L.drop k = [] := List.drop_eq_nil_of_le (by omega)
  rw [d1] at hF
  refine ⟨cs, j, ?_, by rw [d1]; simpa using hF⟩
  show (Zc 600).b _ _ ((Zc 600).L f) some = _
  have e2 : decide ((k : Int) < (C.length : Int)) = false := dF (by omega)
  simp only [Zc]
  simp only [e2, zW, hF.dF, d1, d2, zhg, tkF, List.append_nil]
 | succ d ih =>
  intro k f ch P cs tk j hk hf hj hch hP ht hF
  obtain ⟨f, rfl⟩ := pS hf
  have hkl : k < C.length := by omega
  have hkL : k < L.length := by omega
  have d1 := List.drop_eq_getElem_cons hkl
  have d2 := List.drop_eq_getElem_cons hkL
  have hDl : (P ++ C.drop k).length = C.length := by simp; omega
  have hkd : k < (P ++ C.drop k).length := by omega
  have hDk : (P ++ C.drop k)[k] = C[k] := by
   rw [List.getElem_append_right (by omega)]
   simp [hP]
  have e2 : decide ((k : Int) < (C.length : Int)) = true := dT (by omega)
  have h0 : 0 <= (k : Int) := by omega
  have hk1 : (k : Int) < (C.length : Int) := by omega
  have hx := hC.xs k hkl
  have hxl := hx.le
  have hla := zjJ C[k] hx.ne (by omega)
  have hlq := zo2 hx.ne
  obtain ⟨u, hu⟩ : ∃ u, u = C[k].getLast hx.ne := ⟨_, rfl⟩
  have hLast := hx.last
  rw [<- hu] at hla hLast hlq
  have hop := zv6 hLast.kd
  simp only [kdV] at hop
  have hrk := hr _ (List.getElem_mem hkL)
  obtain ⟨tk', htk⟩ : ∃ tk', tk' = if 0 <= L[k] then tk.set L[k].toNat true else tk := ⟨_, rfl⟩
  have htl : tk'.length = A.length := by rw [htk]; split <;> simp [ht]
  have a27 := pp27 A t u hrk (zA ch) (zA L) k (C.length : Int) X C.length cs hF.dF tk ht (j, C.length)
  rw [<- htk] at a27
  have n1 := zp (show k < 1000000 by omega)
  have g1 : (zA L)[k]? = some [I L[k]] := zdm L k hkL
  have g2 : ([I L[k]] : List AV)[0]? = some (AV.v (.int .i64 L[k])) := rfl
  obtain ⟨tok, q3, _, q4⟩ := hF.2 k hkd
  rw [hDk] at q3
  have hkc : k < cs.length := by rw [hF.1]; omega
  have g3 : zfU (cs.drop k) = some (C[k].map zN, ()) := by
   rw [List.drop_eq_getElem_cons hkc]
   rw [List.getElem?_eq_getElem hkc] at q3
   rw [Option.some.inj q3, rd6t]
  have hz : List.zipWith (zcv A t) (C.drop k) (L.drop k) = zcv A t C[k] L[k] :: List.zipWith (zcv A t) (C.drop (k + 1)) (L.drop (k + 1)) := by rw [d1, d2]; rfl
  have htF : tkF tk (L.drop k) = tkF tk' (L.drop (k + 1)) := by rw [d2, htk]; rfl
  have hsame : zcm A t u L[k] = none -> zcv A t C[k] L[k] = C[k] /\ zhg A t k (C.drop k) (L.drop k) = zhg A t (k + 1) (C.drop (k + 1)) (L.drop (k + 1)) := fun h => by
   rw [d1, d2]
   simp only [zcv, zhg, hlq, h, and_self]
  have hkeep : zcm A t u L[k] = none -> ∃ (cs' : List AV) (j' : Nat), (Zc 600).L f (zA ch, A.map zB, zA L, t, A.length, (C.length : Int), ((k + 1 : Nat) : Int), X, C.length, cs, bc tk', j, C.length) = some (.inr (zA (ch ++ zhg A t k (C.drop k) (L.drop k)), A.map zB, t, A.length, X, C.length, cs', bc (tkF tk (L.drop k)), j', C.length)) /\ FC (P ++ List.zipWith (zcv A t) (C.drop k) (L.drop k)) j' cs' := fun h => by
   obtain ⟨s1, s2⟩ := hsame h
   have hF' : FC ((P ++ [C[k]]) ++ C.drop (k + 1)) j cs := by rw [List.append_assoc, List.singleton_append, <- d1]; exact hF
   obtain ⟨cs', j', r1, r2⟩ := ih (k + 1) f ch (P ++ [C[k]]) cs tk' j (by omega) (by omega) (by omega) (by omega) (by simp [hP]) htl hF'
   refine ⟨cs', j', ?_, ?_⟩
   ·rw [s2, htF]; exact r1
   ·rw [hz, s1]; rw [List.append_assoc, List.singleton_append] at r2; exact r2
  cases hoc : ZW u.1 with
  | false =>
   have hnv : zcm A t u L[k] = none := by
    unfold zcm
    rw [if_neg (by rw [kdV, hoc]; decide)]
   obtain ⟨cs', j', r1, r2⟩ := hkeep hnv
   refine ⟨cs', j', ?_, r2⟩
   show (Zc 600).b _ _ ((Zc 600).L f) some = _
   generalize (Zc 600).L f = Lf at r1 |-
   rw [hoc] at hop
   simp only [Zc]
   simp only [e2, h0, hk1, decide_true, and_self, if_true, Int.toNat_natCast, g1, g2, Nat.zero_add, Nat.mul_one, g3, hla, hF.dF, zW, a27, hop, Bool.not_false, n1]
   exact r1
  | true =>
   rw [hoc] at hop
   have h33 := pp33 hA hLast hoc (t := t) hrk (zA ch) (zA L) A.length k (C.length : Int) X hF hkd hj (by rw [hDk]; omega) (bc tk') (zW tk')
   rw [hDl] at h33
   rcases h33 with ⟨hnv, a33⟩ | ⟨v, cs1, hnv, hF1, a33⟩
   ·obtain ⟨cs', j', r1, r2⟩ := hkeep hnv
    refine ⟨cs', j', ?_, r2⟩
    show (Zc 600).b _ _ ((Zc 600).L f) some = _
    generalize (Zc 600).L f = Lf at r1 |-
    simp only [Zc]
    simp only [e2, h0, hk1, decide_true, and_self, if_true, Int.toNat_natCast, g1, g2, Nat.zero_add, Nat.mul_one, g3, hla, hF.dF, zW, a27, hop, Bool.not_true, a33, n1]
    exact r1
   ·have s1 : zcv A t C[k] L[k] = C[k] ++ [v] := by simp only [zcv, hlq, hnv]
    have s2 : zhg A t k (C.drop k) (L.drop k) = (k : Int) :: zhg A t (k + 1) (C.drop (k + 1)) (L.drop (k + 1)) := by
     rw [d1, d2]
     simp only [zhg, hlq, hnv]
    obtain ⟨tok2, y3, _, _⟩ := hF1.2 k (by simpa using hkd)
    rw [List.getElem_set_self, hDk] at y3
    have l1 : Z1 29 (AV.list 29 ((C[k] ++ [v]).map zN) tok2) = some ((C[k] ++ [v]).map zN) := by simp [Z1]
    have c1 : decide ((((C[k] ++ [v]).map zN).length : Int) > 100) = false := by rw [decide_eq_false_iff_not]; simp; omega
    rw [hDk, zxC P C k hP hkl] at hF1
    obtain ⟨cs', j', r1, r2⟩ := ih (k + 1) f (ch ++ [(k : Int)]) (P ++ [C[k] ++ [v]]) cs1 tk' (k + 1) (by omega) (by omega) (by omega) (by simp; omega) (by simp [hP]) htl hF1
    refine ⟨cs', j', ?_, ?_⟩
    ·have b3 : ((zA ch).length + 1) * 8 <= zh := by rw [jU]; unfold zh; omega
     have r0 : zA (ch ++ [(k : Int)]) = zA ch ++ [[AV.v (.int .i64 (k : Int))]] := by simp [zA]
     rw [s2, htF]
     rw [r0, List.append_assoc, List.singleton_append] at r1
     show (Zc 600).b _ _ ((Zc 600).L f) some = _
     generalize (Zc 600).L f = Lf at r1 |-
     simp only [Zc]
     simp only [e2, h0, hk1, decide_true, and_self, if_true, Int.toNat_natCast, g1, g2, Nat.zero_add, Nat.mul_one, Nat.add_zero, g3, hla, hF.dF, zW, a27, hop, Bool.not_true, a33, n1, y3, l1, c1, b3, hF1.dF, List.length_cons, List.length_nil]
     exact r1
    ·rw [hz, s1]; rw [List.append_assoc, List.singleton_append] at r2; exact r2
end Go.Proofs.YthdgnfcbehcplaaDoor
end
section
namespace Go.Proofs.YthdgnfcbehcplaaDoor
theorem zfu {t : Int} : ∀ {A : List RT0} {T : List Bool} {x : List RT7}, x ∈ news t A T -> ∃ a ∈ A, x = [zfW t a]
 | [], _, _, h => by cases h
 | a :: A, [], _, h => by cases h
 | a :: A, b :: T, x, h => by
  simp only [news] at h
  split at h
  ·obtain ⟨a', h1, h2⟩ := zfu h
   exact ⟨a', List.mem_cons_of_mem _ h1, h2⟩
  ·rcases List.mem_cons.1 h with h | h
   ·exact ⟨a, List.mem_cons_self, h⟩
   ·obtain ⟨a', h1, h2⟩ := zfu h
    exact ⟨a', List.mem_cons_of_mem _ h1, h2⟩
theorem zhv (t : Int) : ∀ (A : List RT0) (T : List Bool), (news t A T).length <= A.length
 | [], _ => Nat.le_refl _
 | a :: A, [] => Nat.zero_le _
 | a :: A, b :: T => by
  have := zhv t A T
  simp only [news]
  split
  ·simp; omega
  ·simp; omega
noncomputable def zjK (C : List (List RT7)) (A : List RT0) (L : List Int) (t : Int) : List (List RT7) := List.zipWith (zcv A t) C L ++ news t A (tkF (List.replicate A.length false) L)
theorem zfL {C : List (List RT7)} {L : List Int} (h : L.length = C.length) (A : List RT0) (t : Int) : (List.zipWith (zcv A t) C L).length = C.length := by simp [h]
theorem zAz {A : List RT0} (hA : ∀ a ∈ A, EvG a) {T t : Int} {n n' i m : Nat} {x : List RT7} (hx : XG T n i m x) (hT : T <= t) (hn : n <= n') (k : Int) : XG t n' i (m + 1) (zcv A t x k) := by
 unfold zcv
 rw [zo2 hx.ne]
 dsimp only
 cases hv : zcm A t (x.getLast hx.ne) k with
 | none => exact hx.mono hT hn (by omega)
 | some v =>
  obtain ⟨g1, g2⟩ := zvT hA hx hT hv
  exact (hx.snoc hT g1 g2).mono (Int.le_refl _) hn (Nat.le_refl _)
theorem zB0 {α : Type} (P Q : List α) (k : Nat) (h : k < P.length) (h' : k < (P ++ Q).length) : (P ++ Q)[k] = P[k] := List.getElem_append_left h
theorem zDr {α : Type} (P Q : List α) (k : Nat) (h : P.length <= k) (h' : k < (P ++ Q).length) : (P ++ Q)[k] = Q[k - P.length]'(by simp at h'; omega) := List.getElem_append_right h
theorem CG.pub {T t : Int} {m e : Nat} {C : List (List RT7)} (hC : CG T m e C) (hT : T <= t) (h0 : 0 <= t) {A : List RT0} (hA : ∀ a ∈ A, EvG a) {L : List Int} (hL : L.length = C.length) : CG t (m + 1) (e + A.length) (zjK C A L t) := by
 have hz := zfL hL A t
 have hn := zhv t A (tkF (List.replicate A.length false) L)
 have hle := hC.le
 have hl : C.length <= (zjK C A L t).length := by unfold zjK; rw [List.length_append, hz]; omega
 refine ⟨fun k hk => ?_, by unfold zjK; rw [List.length_append, hz]; omega⟩
 by_cases h : k < C.length
 ·have e : (zjK C A L t)[k] = zcv A t C[k] (L[k]'(by omega)) := by
   refine (zB0 (List.zipWith (zcv A t) C L) _ k (by rw [hz]; exact h) hk).trans ?_
   rw [List.getElem_zipWith]
  rw [e]
  exact zAz hA (hC.xs k h) hT hl _
 ·have hm : (zjK C A L t)[k] ∈ news t A (tkF (List.replicate A.length false) L) := by
   have e : (zjK C A L t)[k] = _ := zDr (List.zipWith (zcv A t) C L) _ k (by rw [hz]; omega) hk
   rw [e]
   exact List.getElem_mem _
  obtain ⟨a, h1, h2⟩ := zfu hm
  rw [h2]
  exact XG.one (by omega) (zl3 (T := t) h0 (hA a h1)) rfl
theorem zhT {t : Int} (A : List RT0) (hA : ∀ a ∈ A, EvG a) (hAl : A.length <= 100) (tk : List Bool) (ht : tk.length = A.length) (X : List (List AV)) : ∀ (d k f : Nat) (ch : List Int) (D : List (List RT7)), k + d = A.length -> d < f -> D.length + d <= 500 -> ch.length <= D.length ->
  (ZG 600).L f (zA ch, A.map zB, t, A.length, (A.length : Int), (k : Int), X, D.length, bc tk, zaw D) = some (zA (ch ++ (List.range' D.length (news t (A.drop k) (tk.drop k)).length).map fun x : Nat => (x : Int)), X, (D ++ news t (A.drop k) (tk.drop k)).length, zaw (D ++ news t (A.drop k) (tk.drop k))) := by
 intro d
 induction d with
 | zero =>
  intro k f ch D hk hf he hch
  obtain ⟨f, rfl⟩ := pS hf
  show (ZG 600).b _ _ ((ZG 600).L f) some = _
  have e2 : decide ((k : Int) < (A.length : Int)) = false := dF (by omega)
  have d1 : A.drop k = [] := List.drop_eq_nil_of_le (by omega)
  simp only [ZG]
  simp only [e2, jV, d1, news, List.append_nil, List.length_nil, List.range'_zero, List.map_nil]
 | succ d ih =>
  intro k f ch D hk hf he hch
  obtain ⟨f, rfl⟩ := pS hf
  have hkl : k < A.length := by omega
  have hkt : k < tk.length := by omega
  have d1 := List.drop_eq_getElem_cons hkl
  have d2 := List.drop_eq_getElem_cons hkt
  have e2 : decide ((k : Int) < (A.length : Int)) = true := dT (by omega)
  have h0 : 0 <= (k : Int) := by omega
  have h1 : (k : Int) < (A.length : Int) := by omega
  have n1 := zp (show k < 1000000 by omega)
  show (ZG 600).b _ _ ((ZG 600).L f) some = _
  cases hb : tk[k] with
  | true =>
   have r1 := ih (k + 1) f ch D (by omega) (by omega) (by omega) hch
   generalize (ZG 600).L f = Lf at r1 |-
   have hn : news t (A.drop k) (tk.drop k) = news t (A.drop (k + 1)) (tk.drop (k + 1)) := by
    rw [d1, d2]; simp only [news, hb, if_true]
   simp only [ZG]
   simp only [e2, h0, h1, decide_true, and_self, if_true, Int.toNat_natCast, zcp A k hkl, ZE, Nat.zero_add, Nat.mul_one, zbE tk k hkt, hb, Bool.not_true, zW, jV, n1, hn]
   exact r1
  | false =>
   have r1 := ih (k + 1) f (ch ++ [(D.length : Int)]) (D ++ [[zfW t A[k]]]) (by omega) (by omega) (by simp; omega) (by simp; omega)
   obtain ⟨Lf, hLf⟩ : ∃ Lf, Lf = (ZG 600).L f := ⟨_, rfl⟩
   have hn : news t (A.drop k) (tk.drop k) = [zfW t A[k]] :: news t (A.drop (k + 1)) (tk.drop (k + 1)) := by
    rw [d1, d2]; simp only [news, hb, Bool.false_eq_true, if_false]
   have hl1 : (D ++ [[zfW t A[k]]]).length = D.length + 1 := by simp
   have r0 : zA (ch ++ [(D.length : Int)]) = zA ch ++ [[AV.v (.int .i64 ((D.length : Nat) : Int))]] := by simp [zA]
   rw [List.append_assoc, List.append_assoc, List.singleton_append, List.singleton_append, <- hn, hl1, <- zjI, r0] at r1
   have hr' : ∀ q : Nat, (((List.range' D.length (q + 1)).map fun x : Nat => (x : Int))) = (D.length : Int) :: (List.range' (D.length + 1) q).map fun x : Nat => (x : Int) := fun q => by
    rw [List.range'_succ, List.map_cons]
   have hnl : (news t (A.drop k) (tk.drop k)).length = (news t (A.drop (k + 1)) (tk.drop (k + 1))).length + 1 := by rw [hn]; simp
   rw [<- hr', <- hnl] at r1
   rw [<- hLf] at r1 |-
   have hc := J2 (hA A[k] (List.getElem_mem _)).pk
   have b1 : ((zA ch).length + 1) * 8 <= zh := by rw [jU]; unfold zh; omega
   have b2 : (D.length * 1 <= (zaw D).length /\ (D.length + 1) * 24 <= zh) := by rw [zaU]; unfold zh; omega
   simp only [ZG]
   simp only [e2, h0, h1, decide_true, and_self, if_true, Int.toNat_natCast, zcp A k hkl, ZE, Nat.zero_add, zW, jV, n1, List.length_cons, List.length_nil, b1, hc]
   simp only [Nat.mul_one, zbE tk k hkt, hb, Bool.not_false]
   rw [Nat.mul_one] at b2 r1
   exact (if_pos b2).trans r1
structure FInv (A : List RT0) (n : Nat) (o : List Int) (t : List Bool) : Prop where
 ol : o.length = n
 tl : t.length = A.length
 rg : Rg A.length o
 tk : ∀ i (h : i < o.length) (j : Nat) (hj : j < t.length), o[i] = (j : Int) -> t[j] = true
 inj : ∀ i i' (h : i < o.length) (h' : i' < o.length), 0 <= o[i] -> o[i] = o[i'] -> i = i'
theorem Pass.inv {M : RT0 -> RT0 -> Prop} {C : List (List RT7)} {A : List RT0} {k : Nat} {o o' : List Int} {t t' : List Bool} (h : Pass M C A k o t o' t') (n : Nat) (hi : FInv A n o t) : FInv A n o' t' := by
 induction h with
 | done _ => exact hi
 | skip _ _ _ ih => exact ih hi
 | miss _ _ _ _ _ ih => exact ih hi
 | @hit k j o o' t t' a h1 h2 h3 h4 _ ih =>
  obtain ⟨ol, tl, rg, tk, inj⟩ := hi
  obtain ⟨g1, g2, g3, g4, g5, g6⟩ := h4
  have hfr : ∀ i (h : i < o.length), o[i] ≠ (j : Int) := fun i h e => by
   have := tk i h j g2 e
   rw [g4] at this; cases this
  refine ih ⟨by simpa using ol, by simpa using tl, rg.set k (by omega), fun i hi l hl he => ?_, fun i i' hi hi' h0 he => ?_⟩
  ·simp only [List.length_set] at hi hl
   rw [List.getElem_set]
   split
   ·rfl
   ·rename_i hne
    rw [List.getElem_set] at he
    split at he
    ·exact absurd (by omega : j = l) hne
    ·exact tk i hi l hl he
  ·simp only [List.length_set] at hi hi'
   rw [List.getElem_set] at h0 he
   rw [List.getElem_set] at he
   split at he
   ·rename_i e1
    split at he
    ·omega
    ·exact absurd he.symm (hfr i' hi')
   ·rename_i e1
    rw [if_neg e1] at h0
    split at he
    ·exact absurd he (hfr i hi)
    ·exact inj i i' hi hi' h0 he
theorem FolP.inv {C : List (List RT7)} {A : List RT0} {L : List Int} (h : FolP C A L) : L.length = C.length /\ Rg A.length L /\ ∀ i i' (h : i < L.length) (h' : i' < L.length), 0 <= L[i] -> L[i] = L[i'] -> i = i' := by
 obtain ⟨L1, t1, t2, h1, h2⟩ := h
 have h3 := h2.inv C.length (h1.inv C.length ⟨by simp, by simp, fun x hx => by rw [(List.mem_replicate.1 hx).2]; omega, fun i h j hj e => by
  simp at e, fun i i' h h' h0 => by simp at h0⟩)
 exact ⟨h3.ol, h3.rg, h3.inj⟩
theorem zqm (A : List RT0) (t : Int) : ∀ (C : List (List RT7)) (L : List Int) (k : Nat), (zhg A t k C L).length <= C.length
 | [], _, _ => Nat.zero_le _
 | x :: C, [], _ => Nat.zero_le _
 | x :: C, l :: L, k => by
  have := zqm A t C L (k + 1)
  simp only [zhg]
  split
  ·split <;> simp <;> omega
  ·simp; omega
noncomputable def chgC (C : List (List RT7)) (A : List RT0) (L : List Int) (t : Int) : List Int := zhg A t 0 C L ++ (List.range' C.length (news t A (tkF (List.replicate A.length false) L)).length).map fun x : Nat => (x : Int)
theorem zmN {T t : Int} {m e : Nat} {C : List (List RT7)} (hC : CG T m e C) {A : List RT0} {M : Nat} (hM : M <= 5) (hA : Evs 0 M A) (he : e <= 63) (hm : m < 100) (hT : T <= t) (hT0 : 0 <= T) (ht : t <= 18014398509481984) : ∃ L, zsL 600 (zG C, A.map zB) = some (zA L) /\ FolP C A L /\ zlo 600 (zG C, A.map zB, t) = some (zG (zjK C A L t), zA (chgC C A L t), 0) /\ CG t (m + 1) (e + A.length) (zjK C A L t) := by
 have hle := hC.le
 have hAl := zdN hA
 have hg : ∀ a ∈ A, EvG a := fun a ha => (hA.evn hM a ha).g
 have hV := zmC (by omega) (by omega) (by omega) hC
 have hE := zaJ hM hA
 have hTm := ziG (by omega) (by omega) hC hT (by omega) ht hT0
 obtain ⟨cs, q1, q2⟩ := zwi (by omega) (by omega) hC
 obtain ⟨L, f1, f2, f3⟩ := zuQ he (by omega) hC A (by omega) (fun a ha => (hg a ha).pk)
 have hrg := f3.inv.2.1
 refine ⟨L, f1, f3, ?_, hC.pub hT (by omega) hg f2⟩
 obtain ⟨cs', j', p1, p2⟩ := zpr hC (by omega) hm A hg L f2 hrg [] (t := t) C.length 0 600 [] [] cs (List.replicate A.length false) 0 (by omega) (by omega) (by omega) (by simp) rfl (by simp) (by simpa using q2)
 have hz := zfL f2 A t
 have hch := zqm A t C L 0
 simp only [List.drop_zero, List.nil_append] at p1 p2
 replace p1 : (Zc 600).L 600 ([], A.map zB, zA L, t, A.length, (C.length : Int), 0, [], C.length, cs, bc (List.replicate A.length false), 0, C.length) = _ := p1
 have s1 := zhT A hg (by omega) (tkF (List.replicate A.length false) L) (by rw [zmJ]; simp) [] (t := t) A.length 0 600 (zhg A t 0 C L) (List.zipWith (zcv A t) C L) (by omega) (by omega) (by rw [hz]; omega) (by rw [hz]; omega)
 simp only [List.drop_zero, hz] at s1
 replace s1 : (ZG 600).L 600 (zA (zhg A t 0 C L), A.map zB, t, A.length, (A.length : Int), 0, [], C.length, bc (tkF (List.replicate A.length false) L), zaw (List.zipWith (zcv A t) C L)) = _ := s1
 have hpl : (List.zipWith (zcv A t) C L ++ news t A (tkF (List.replicate A.length false) L)).length <= 500 := by
  have := zhv t A (tkF (List.replicate A.length false) L)
  rw [List.length_append, hz]; omega
 obtain ⟨D, hD⟩ : ∃ D, D = List.zipWith (zcv A t) C L ++ news t A (tkF (List.replicate A.length false) L) := ⟨_, rfl⟩
 rw [<- hD] at s1 hpl
 have n7 : decide (((D.length : Nat) : Int) > 500) = false := dF (by omega)
 have n8 : D.length * 1 <= (zaw D).length := by rw [zaU]; omega
 have n9 : ((0 : Int) != 0) = false := by decide
 have c1 : (0 <= (A.length : Int) /\ (A.length : Int) <= (A.length : Int) /\ (A.length : Int).toNat * 1 <= zh) := by unfold zh; omega
 simp only [zlo, FSpec.d, zdV, hV, hE, hTm, Bool.not_true, n9, q1, List.length_map]
 rw [if_pos c1]
 simp only [f1, q2.dJ, q2.dF, jU, List.length_map, f2, zwj, zW, Int.toNat_natCast, zpK, p1, zog, p2.d0, s1, n7]
 rw [if_pos n8, zeE]
 rw [hD]
 rfl
end Go.Proofs.YthdgnfcbehcplaaDoor
end
section
namespace Go.Proofs.YthdgnfcbehcplaaDoor
theorem f51a (N : Nat) (x) : zmj N x = zqY N x := by kernel_rfl
theorem f52a (N : Nat) (x) : zmT N x = zlf N x := by kernel_rfl
theorem zdH (x y : Int) : ∃ r, zc0 600 (x, y) = some r := by
 simp only [zc0, FSpec.d, zhY, zto, zhV, bne_self_eq_false]
 cases decide (x < y) <;> cases decide (x > y) <;> exact ⟨_, rfl⟩
theorem zmk (x : Int) : zc0 600 (x, x) = some 0 := by
 have e1 : decide (x < x) = false := dF (by omega)
 have e2 : decide (x > x) = false := dF (by omega)
 simp only [zc0, FSpec.d, zhY, zto, zhV, bne_self_eq_false, e1, e2]
theorem zEu (i j : Nat) (h : i < j) (hj : j < 4) : (zu1 600 ((AB, st i, LC, CH, ()), (AB, st j, LC, CH, ())) = some (-1) /\ zu1 600 ((AB, st j, LC, CH, ()), (AB, st i, LC, CH, ())) = some 1) /\ (zov 600 ((AB, st i, LC, CH, ()), (AB, st j, LC, CH, ())) = some (-1) /\ zov 600 ((AB, st j, LC, CH, ()), (AB, st i, LC, CH, ())) = some 1) := by
 rcases (show (i = 0 /\ j = 1) \/ (i = 0 /\ j = 2) \/ (i = 0 /\ j = 3) \/ (i = 1 /\ j = 2) \/ (i = 1 /\ j = 3) \/ (i = 2 /\ j = 3) by omega) with ⟨rfl, rfl⟩ | ⟨rfl, rfl⟩ | ⟨rfl, rfl⟩ | ⟨rfl, rfl⟩ | ⟨rfl, rfl⟩ | ⟨rfl, rfl⟩ <;> exact ⟨⟨by kernel_rfl, by kernel_rfl⟩, by kernel_rfl, by kernel_rfl⟩
theorem or6 (y a b c d e : Int) (h : y = -1 \/ y = 1) : zpX 600 [[AV.v (.int .i64 y)], [AV.v (.int .i64 a)], [AV.v (.int .i64 b)], [AV.v (.int .i64 c)], [AV.v (.int .i64 d)], [AV.v (.int .i64 e)]] = some y := by
 rcases h with rfl | rfl <;> kernel_rfl
theorem zAn {p q : RT1} {i j : Nat} {y : Int} (hp : j7 i p) (hq : j7 j q) (hy : y = -1 \/ y = 1) (h : zu1 600 ((AB, st i, LC, CH, ()), (AB, st j, LC, CH, ())) = some y) : zpE 600 (p, q) = some y := by
 obtain ⟨p1, p2, p3, p4, p5, p6, p7, p8, p9, _⟩ := p
 obtain ⟨q1, q2, q3, q4, q5, q6, q7, q8, q9, _⟩ := q
 obtain ⟨a1, a2, a3, a4, _⟩ := hp
 obtain ⟨b1, b2, b3, b4, _⟩ := hq
 dsimp only at a1 a2 a3 a4 b1 b2 b3 b4
 subst a1 a2 a3 a4 b1 b2 b3 b4
 obtain ⟨r1, e1⟩ := zdH p5 q5
 obtain ⟨r2, e2⟩ := zdH p6 q6
 obtain ⟨r3, e3⟩ := zdH p7 q7
 obtain ⟨r4, e4⟩ := zdH p8 q8
 obtain ⟨r5, e5⟩ := zdH p9 q9
 simp only [zpE, FSpec.d, zj6]
 simp only [h, e1, e2, e3, e4, e5, or6 y r1 r2 r3 r4 r5 hy]
theorem zBU {p q : RT1} {i j : Nat} (hp : j7 i p) (hq : j7 j q) (h : i < j) (hj : j < 4) : zpE 600 (p, q) = some (-1) := zAn hp hq (.inl rfl) (zEu i j h hj).1.1
theorem zz8 {p q : RT1} {i j : Nat} (hp : j7 i p) (hq : j7 j q) (h : i < j) (hj : j < 4) (ht : tmP p = tmP q) : zoB 600 (q, p) = some 1 := by
 have h1 := zAn hq hp (.inr rfl) (zEu i j h hj).1.2
 have h3 : zc0 600 (q.2.2.2.2.1, p.2.2.2.2.1) = some 0 := by
  rw [show p.2.2.2.2.1 = q.2.2.2.2.1 from ht]; exact zmk _
 have h4 : zpX 600 [[AV.v (.int .i64 0)], [AV.v (.int .i64 1)]] = some 1 := by kernel_rfl
 simp only [zoB, FSpec.d, zj9]
 simp only [h3, h1, h4]
theorem zAB {p q : RT1} {i j : Nat} (hp : j7 i p) (hq : j7 j q) (h : i < j) (hj : j < 4) : zkK 600 (q, p) = some 1 /\ zkK 600 (p, q) = some (-1) := by
 obtain ⟨p1, p2, p3, p4, p5, p6, p7, p8, p9, _⟩ := p
 obtain ⟨q1, q2, q3, q4, q5, q6, q7, q8, q9, _⟩ := q
 obtain ⟨a1, a2, a3, a4, _⟩ := hp
 obtain ⟨b1, b2, b3, b4, _⟩ := hq
 dsimp only at a1 a2 a3 a4 b1 b2 b3 b4
 subst a1 a2 a3 a4 b1 b2 b3 b4
 obtain ⟨s1, s2⟩ := (zEu i j h hj).2
 have e1 : ((1 : Int) != 0) = true := by decide
 have e2 : ((-1 : Int) != 0) = true := by decide
 constructor
 ·simp only [zkK, FSpec.d, zhA]
  simp only [s2, e1]
 ·simp only [zkK, FSpec.d, zhA]
  simp only [s1, e2]
theorem zA4 {p q : RT1} {i j : Nat} (hp : j7 i p) (hq : j7 j q) (h : i < j) (hj : j < 4) (ht : tmP p = tmP q) : zpW 600 (q, p) = some 1 := by
 have e1 : decide (q.2.2.2.2.1 < p.2.2.2.2.1) = false := by rw [decide_eq_false_iff_not]; simp only [tmP] at ht; omega
 have e2 : decide (q.2.2.2.2.1 > p.2.2.2.2.1) = false := by rw [decide_eq_false_iff_not]; simp only [tmP] at ht; omega
 simp only [zpW, FSpec.d, zkO]
 simp only [e1, e2, (zAB hp hq h hj).1]
structure OneT (P : List RT1) : Prop where
 l1 : 1 <= P.length
 l4 : P.length <= 4
 old : ∀ i (h : i < P.length), j7 i P[i]
 tm : ∀ i (h : i < P.length), tmP P[0] = tmP P[i]
theorem OneT.dis {P : List RT1} (h : OneT P) : P.Pairwise fun a b => a ≠ b := by
 rw [List.pairwise_iff_getElem]
 intro i j hi hj hij e
 have h1 := (h.old i hi).2.1
 have h2 := (h.old j hj).2.1
 rw [e, h2] at h1
 have hl := h.l4
 rcases (show (i = 0 /\ j = 1) \/ (i = 0 /\ j = 2) \/ (i = 0 /\ j = 3) \/ (i = 1 /\ j = 2) \/ (i = 1 /\ j = 3) \/ (i = 2 /\ j = 3) by omega) with ⟨rfl, rfl⟩ | ⟨rfl, rfl⟩ | ⟨rfl, rfl⟩ | ⟨rfl, rfl⟩ | ⟨rfl, rfl⟩ | ⟨rfl, rfl⟩ <;> exact absurd h1 (by decide)
theorem zj8 {P : List RT1} (h : OneT P) : zuq 600 (P.map zq) = some true := by
 have hl := h.l4
 have key : ∀ (d k f : Nat), 1 <= k -> k + d = P.length -> d < f -> (jK 600).L f (P.map zq, (k : Int)) = some (.inr ()) := by
  intro d
  induction d with
  | zero =>
   intro k f h1 hk hf
   obtain ⟨f, rfl⟩ := pS hf
   show (jK 600).b _ _ ((jK 600).L f) some = _
   have e2 : decide ((k : Int) < (P.length : Int)) = false := dF (by omega)
   simp only [jK]
   simp only [List.length_map, e2]
  | succ d ih =>
   intro k f h1 hk hf
   obtain ⟨f, rfl⟩ := pS hf
   obtain ⟨k', rfl⟩ : ∃ k', k = k' + 1 := ⟨k - 1, by omega⟩
   have r1 := ih (k' + 1 + 1) f (by omega) (by omega) (by omega)
   show (jK 600).b _ _ ((jK 600).L f) some = _
   generalize (jK 600).L f = Lf at r1 |-
   have e2 : decide (((k' + 1 : Nat) : Int) < (P.length : Int)) = true := dT (by omega)
   have d7 : i64 (((k' + 1 : Nat) : Int) - 1) = (k' : Int) := by rw [zX (by omega)]; omega
   have h0 : 0 <= (k' : Int) := by omega
   have h0' : 0 <= ((k' + 1 : Nat) : Int) := by omega
   have hc := zBU (h.old k' (by omega)) (h.old (k' + 1) (by omega)) (by omega) (by omega)
   have e3 : decide ((-1 : Int) >= 0) = false := by decide
   simp only [jK]
   simp only [List.length_map, e2, d7, h0, h0', if_true, Int.toNat_natCast, zbe P k' (by omega), zbe P (k' + 1) (by omega), Zq, hc, e3, zp (show k' + 1 < 1000000 by omega)]
   exact r1
 have h1 := key (P.length - 1) 1 600 (by omega) (by have := h.l1; omega) (by omega)
 replace h1 : (jK 600).L 600 (P.map zq, 1) = some (.inr ()) := h1
 simp only [zuq, FSpec.d, zkF, zwJ, h1]
theorem zvp {P : List RT1} (h : OneT P) : zub 600 (P.map zq) = some (P[0]'(by have := h.l1; omega)) := by
 have hl := h.l4
 have hp : 0 < P.length := by have := h.l1; omega
 have key : ∀ (d k f : Nat) (u : RT1), 1 <= k -> k + d = P.length -> d < f -> (jh 600).L f (P.map zq, (k : Int), u, P[0]) = some (u, P[0]) := by
  intro d
  induction d with
  | zero =>
   intro k f u h1 hk hf
   obtain ⟨f, rfl⟩ := pS hf
   show (jh 600).b _ _ ((jh 600).L f) some = _
   have e2 : decide ((k : Int) < (P.length : Int)) = false := dF (by omega)
   simp only [jh]
   simp only [List.length_map, e2]
  | succ d ih =>
   intro k f u h1 hk hf
   obtain ⟨f, rfl⟩ := pS hf
   have hkl : k < P.length := by omega
   have r1 := ih (k + 1) f u (by omega) (by omega) (by omega)
   show (jh 600).b _ _ ((jh 600).L f) some = _
   generalize (jh 600).L f = Lf at r1 |-
   have e2 : decide ((k : Int) < (P.length : Int)) = true := dT (by omega)
   have h0 : 0 <= (k : Int) := by omega
   have hc := zz8 (h.old 0 hp) (h.old k hkl) (by omega) (by omega) (h.tm k hkl)
   have e3 : decide ((1 : Int) < 0) = false := by decide
   simp only [jh]
   simp only [List.length_map, e2, h0, if_true, Int.toNat_natCast, zbe P k hkl, Zq, hc, e3, zp (show k < 1000000 by omega)]
   exact r1
 have h1 := key (P.length - 1) 1 600 ((⟨#[]⟩ : ByteArray), (⟨#[]⟩ : ByteArray), (⟨#[]⟩ : ByteArray), (⟨#[]⟩ : ByteArray), 0, 0, 0, 0, 0, ()) (by omega) (by omega) (by omega)
 replace h1 : (jh 600).L 600 (P.map zq, 1, ((⟨#[]⟩ : ByteArray), (⟨#[]⟩ : ByteArray), (⟨#[]⟩ : ByteArray), (⟨#[]⟩ : ByteArray), 0, 0, 0, 0, 0, ()), P[0]) = _ := h1
 have g0 : (P.map zq)[(0 : Int).toNat]? = some (zq P[0]) := zbe P 0 hp
 have z0 : (0 : Int) <= 0 := by omega
 have e1 : ((P.length : Int) == 0) = false := by rw [beq_eq_false_iff_ne]; omega
 have e2 : decide ((P.length : Int) < 1) = false := dF (by omega)
 simp only [zub, FSpec.d, zlB, List.length_map, e1, zBD, zdR, e2, z0, if_true, g0, Zq, zxo, h1]
theorem znz {P : List RT1} (h : OneT P) : ztz 600 (P.map zq) = some (P[0]'(by have := h.l1; omega)) := by
 have hl := h.l4
 have hp : 0 < P.length := by have := h.l1; omega
 have key : ∀ (d k f : Nat) (u : RT1), 1 <= k -> k + d = P.length -> d < f -> (jH 600).L f (P.map zq, (k : Int), u, P[0]) = some (u, P[0]) := by
  intro d
  induction d with
  | zero =>
   intro k f u h1 hk hf
   obtain ⟨f, rfl⟩ := pS hf
   show (jH 600).b _ _ ((jH 600).L f) some = _
   have e2 : decide ((k : Int) < (P.length : Int)) = false := dF (by omega)
   simp only [jH]
   simp only [List.length_map, e2]
  | succ d ih =>
   intro k f u h1 hk hf
   obtain ⟨f, rfl⟩ := pS hf
   have hkl : k < P.length := by omega
   have r1 := ih (k + 1) f u (by omega) (by omega) (by omega)
   show (jH 600).b _ _ ((jH 600).L f) some = _
   generalize (jH 600).L f = Lf at r1 |-
   have e2 : decide ((k : Int) < (P.length : Int)) = true := dT (by omega)
   have h0 : 0 <= (k : Int) := by omega
   have hc := zA4 (h.old 0 hp) (h.old k hkl) (by omega) (by omega) (h.tm k hkl)
   have e3 : decide ((1 : Int) < 0) = false := by decide
   simp only [jH]
   simp only [List.length_map, e2, h0, if_true, Int.toNat_natCast, zbe P k hkl, Zq, hc, e3, zp (show k < 1000000 by omega)]
   exact r1
 have h1 := key (P.length - 1) 1 600 ((⟨#[]⟩ : ByteArray), (⟨#[]⟩ : ByteArray), (⟨#[]⟩ : ByteArray), (⟨#[]⟩ : ByteArray), 0, 0, 0, 0, 0, ()) (by omega) (by omega) (by omega)
 replace h1 : (jH 600).L 600 (P.map zq, 1, ((⟨#[]⟩ : ByteArray), (⟨#[]⟩ : ByteArray), (⟨#[]⟩ : ByteArray), (⟨#[]⟩ : ByteArray), 0, 0, 0, 0, 0, ()), P[0]) = _ := h1
 have g0 : (P.map zq)[(0 : Int).toNat]? = some (zq P[0]) := zbe P 0 hp
 have z0 : (0 : Int) <= 0 := by omega
 simp only [ztz, FSpec.d, zld, z0, if_true, g0, Zq, zvS, h1]
theorem zEv (a0 b0 c0 d0 : Int) : zht 600 (([(AB, st 0, LC, CH, a0, b0, c0, d0, 0, ())] : List RT1).map zq) = some (([(AB, st 0, LC, CH, a0, b0, c0, d0, 0, ())] : List RT1).map zq) := by kernel_rfl
theorem zCP (a0 b0 c0 d0 a1 b1 c1 d1 : Int) : zht 600 (([(AB, st 0, LC, CH, a0, b0, c0, d0, 0, ()), (AB, st 1, LC, CH, a1, b1, c1, d1, 0, ())] : List RT1).map zq) = some (([(AB, st 0, LC, CH, a0, b0, c0, d0, 0, ()), (AB, st 1, LC, CH, a1, b1, c1, d1, 0, ())] : List RT1).map zq) := by kernel_rfl
theorem zEx (a0 b0 c0 d0 a1 b1 c1 d1 a2 b2 c2 d2 : Int) : zht 600 (([(AB, st 0, LC, CH, a0, b0, c0, d0, 0, ()), (AB, st 1, LC, CH, a1, b1, c1, d1, 0, ()), (AB, st 2, LC, CH, a2, b2, c2, d2, 0, ())] : List RT1).map zq) = some (([(AB, st 0, LC, CH, a0, b0, c0, d0, 0, ()), (AB, st 1, LC, CH, a1, b1, c1, d1, 0, ()), (AB, st 2, LC, CH, a2, b2, c2, d2, 0, ())] : List RT1).map zq) := by kernel_rfl
theorem zCZ (a0 b0 c0 d0 a1 b1 c1 d1 a2 b2 c2 d2 a3 b3 c3 d3 : Int) : zht 600 (([(AB, st 0, LC, CH, a0, b0, c0, d0, 0, ()), (AB, st 1, LC, CH, a1, b1, c1, d1, 0, ()), (AB, st 2, LC, CH, a2, b2, c2, d2, 0, ()), (AB, st 3, LC, CH, a3, b3, c3, d3, 0, ())] : List RT1).map zq) = some (([(AB, st 0, LC, CH, a0, b0, c0, d0, 0, ()), (AB, st 1, LC, CH, a1, b1, c1, d1, 0, ()), (AB, st 2, LC, CH, a2, b2, c2, d2, 0, ()), (AB, st 3, LC, CH, a3, b3, c3, d3, 0, ())] : List RT1).map zq) := by kernel_rfl
theorem ztD {P : List RT1} (h : OneT P) : zht 600 (P.map zq) = some (P.map zq) := by
 have hl := h.l4
 have h1 := h.l1
 have ho : ∀ i (hi : i < P.length), ∃ a b c d : Int, P[i] = (AB, st i, LC, CH, a, b, c, d, 0, ()) := fun i hi => by
  obtain ⟨a1, a2, a3, a4, a5⟩ := h.old i hi
  obtain ⟨q, hq⟩ : ∃ q, P[i] = q := ⟨_, rfl⟩
  rw [hq] at a1 a2 a3 a4 a5 |-
  obtain ⟨q1, q2, q3, q4, q5, q6, q7, q8, q9, _⟩ := q
  dsimp only at a1 a2 a3 a4 a5
  subst a1 a2 a3 a4 a5
  exact ⟨_, _, _, _, rfl⟩
 match P, hl, h1, ho with
 | [p], _, _, ho =>
  obtain ⟨a0, b0, c0, d0, e0⟩ := ho 0 (by simp)
  dsimp only [List.getElem_cons_zero, List.getElem_cons_succ] at e0
  subst e0
  exact zEv _ _ _ _
 | [p, q], _, _, ho =>
  obtain ⟨a0, b0, c0, d0, e0⟩ := ho 0 (by simp)
  obtain ⟨a1, b1, c1, d1, e1⟩ := ho 1 (by simp)
  dsimp only [List.getElem_cons_zero, List.getElem_cons_succ] at e0 e1
  subst e0 e1
  exact zCP _ _ _ _ _ _ _ _
 | [p, q, r], _, _, ho =>
  obtain ⟨a0, b0, c0, d0, e0⟩ := ho 0 (by simp)
  obtain ⟨a1, b1, c1, d1, e1⟩ := ho 1 (by simp)
  obtain ⟨a2, b2, c2, d2, e2⟩ := ho 2 (by simp)
  dsimp only [List.getElem_cons_zero, List.getElem_cons_succ] at e0 e1 e2
  subst e0 e1 e2
  exact zEx _ _ _ _ _ _ _ _ _ _ _ _
 | [p, q, r, s], _, _, ho =>
  obtain ⟨a0, b0, c0, d0, e0⟩ := ho 0 (by simp)
  obtain ⟨a1, b1, c1, d1, e1⟩ := ho 1 (by simp)
  obtain ⟨a2, b2, c2, d2, e2⟩ := ho 2 (by simp)
  obtain ⟨a3, b3, c3, d3, e3⟩ := ho 3 (by simp)
  dsimp only [List.getElem_cons_zero, List.getElem_cons_succ] at e0 e1 e2 e3
  subst e0 e1 e2 e3
  exact zCZ _ _ _ _ _ _ _ _ _ _ _ _ _ _ _ _
theorem zhL {P : List RT1} {e : RT0} (h : OneT P) (hn : nmE e = P[0]'(by have := h.l1; omega)) (hp : pkE e = P.map zq) : zfm 600 [zB e] = some true := by
 have hl := h.l4
 have h1 := h.l1
 have hs := zj8 h
 have hm := zvp h
 have hsl := zgL [zB e] [zB e] 1 0 P (by omega) h.dis P.length 0 600 [] (by omega) (by omega) (fun p _ h => by cases h)
 replace hsl : (ZN 600).L 600 ([zB e], [zB e], P.map zq, 1, 0, (P.length : Int), 0, []) = _ := hsl
 have ee := (congrArg (eqP (nmE e)) hn).symm.trans (Jr (nmE e))
 simp only [eqP] at ee
 have hp' : e.2.2.2.2.2.2.2.2.2.1 = P.map zq := hp
 have c0 : decide ((0 : Int) < 1) = true := by decide
 have c1 : ((P.length : Int) == 0) = false := by rw [beq_eq_false_iff_ne]; omega
 have c2 : decide ((0 : Int) > 0) = false := by decide
 have c3 : i64 (0 + 1) = 1 := by decide
 have c4 : decide ((1 : Int) < 1) = false := by decide
 have g0 : ([zB e] : List (List AV))[(0 : Int).toNat]? = some (zB e) := rfl
 have z0 : (0 : Int) <= 0 := by omega
 have h5 : (ZD 600).L 600 ([zB e], [zB e], 1, 0, []) = some (.inr ()) := by
  show (ZD 600).b _ _ ((ZD 600).L 599) some = _
  have hz : ∀ M, (ZD 600).L 599 ([zB e], [zB e], 1, 1, M) = some (.inr ()) := fun M => by
   show (ZD 600).b _ _ ((ZD 600).L 598) some = _
   simp only [ZD]
   simp only [c4]
  generalize (ZD 600).L 599 = Lf at hz |-
  simp only [ZD]
  simp only [c0, z0, if_true, g0, ZE, hp', List.length_map, c1, hs, Bool.not_true, hm, ee, c2, zix, hsl, c3]
  exact hz _
 simp only [zfm, FSpec.d, ziq, List.length_cons, List.length_nil, Nat.zero_add]
 replace h5 : zn2 600 ([zB e], [zB e], ((1 : Nat) : Int), 0, []) = some (.inr ()) := h5
 simp only [h5]
theorem zia {P : List RT1} {e : RT0} (h : OneT P) (hn : nmE e = P[0]'(by have := h.l1; omega)) (hp : pkE e = P.map zq) : zc3 600 [zB e] = some true := by
 have hl := h.l4
 have h1 := h.l1
 have hm := znz h
 have hs := ztD h
 obtain ⟨b, hb1, hb2⟩ := zz7 P P (by omega) (by omega)
 rw [hb2.2 rfl] at hb1
 have ee := (congrArg (eqP (nmE e)) hn).symm.trans (Jr (nmE e))
 simp only [eqP] at ee
 have c0 : decide ((0 : Int) < 1) = true := by decide
 have c1 : ((P.length : Int) == 0) = false := by rw [beq_eq_false_iff_ne]; omega
 have c2 : decide ((0 : Int) > 0) = false := by decide
 have c3 : i64 (0 + 1) = 1 := by decide
 have c4 : decide ((1 : Int) < 1) = false := by decide
 have c5 : decide ((0 : Int) < 0) = false := by decide
 have g0 : ([zB e] : List (List AV))[(0 : Int).toNat]? = some (zB e) := rfl
 have z0 : (0 : Int) <= 0 := by omega
 have hz : (ZH 600).L 599 ([zB e], 1) = some (.inr ()) := by
  show (ZH 600).b _ _ ((ZH 600).L 598) some = _
  simp only [ZH]
  simp only [List.length_cons, List.length_nil, Nat.zero_add]
  have c4' : decide ((1 : Int) < ((1 : Nat) : Int)) = false := by decide
  simp only [c4']
 have h17 : zdI 600 ([zB e], P.map zq, 0, 0) = some (.inr ([zB e], 0)) := by
  show (Zy 600).b _ _ ((Zy 600).L 599) some = _
  simp only [Zy]
  simp only [c5]
 have h4 : zoT 600 ([zB e], 0) = some (.inr ()) := by
  show (ZH 600).b _ _ ((ZH 600).L 599) some = _
  generalize (ZH 600).L 599 = Lf at hz |-
  simp only [ZH]
  simp only [List.length_cons, List.length_nil, Nat.zero_add]
  have c0' : decide ((0 : Int) < ((1 : Nat) : Int)) = true := by decide
  simp only [c0', z0, if_true, g0, pk0, zA3, hp, List.length_map, c1, nm0, hm, ee, Bool.not_true, hs, hb1, c2, h17, c3]
  exact hz
 simp only [zc3, FSpec.d, zif]
 simp only [h4]
theorem zCd {P : List RT1} {e : RT0} (h : OneT P) (hn : nmE e = P[0]'(by have := h.l1; omega)) (hp : pkE e = P.map zq) : EvG e :=
 ⟨zia h hn hp, zhL h hn hp, ⟨P, h.l4, hp⟩⟩
def z9 (P : List RT1) : RT9 := ((⟨#[]⟩ : ByteArray), (⟨#[]⟩ : ByteArray), (⟨#[]⟩ : ByteArray), (⟨#[]⟩ : ByteArray), 0, 0, 0, 0, 0, P.map zq, 0, 0, 0, 0, 0, 0, 0, 0, 0, 0, 0, 0, 0, 0, 0, ())
theorem zss (t : Int) {xs : List Int} (ht : 0 <= t /\ t <= 100000) : ∀ (m k f : Nat) (p : Int) (L : List RT1), k + m = 4 -> m < f -> Sc xs p -> L.length = k -> (∀ i (h : i < L.length), j7 i L[i] /\ tmP L[i] = t + 30) ->
  ∃ (L' : List RT1) (p' : Int), (ZB 600).L f (3, t, (k : Int), zA xs, p, z8, z9 L) = some (t, zA xs, p', z8, z9 L') /\ (1 <= L'.length /\ L'.length <= 4) /\ (∀ i (h : i < L'.length), j7 i L'[i] /\ tmP L'[i] = t + 30) /\ Sc xs p' := by
 intro m
 induction m with
 | zero =>
  intro k f p L hk hf D hl hL
  obtain ⟨f, rfl⟩ := pS hf
  obtain ⟨v, p1, h1, m1, D1⟩ := zaP 600 (n := 4) (by omega) D
  have e1 : i64 (1 + v) = 1 + v := zX (by omega)
  refine ⟨L, p1, ?_, by omega, hL, D1⟩
  show (ZB 600).b _ _ ((ZB 600).L f) some = _
  have e2 : decide ((k : Int) < 1 + v) = false := dF (by omega)
  simp only [ZB]
  simp only [f8a, h1, e1, e2]
 | succ m ih =>
  intro k f p L hk hf D hl hL
  obtain ⟨f, rfl⟩ := pS hf
  obtain ⟨v, p1, h1, m1, D1⟩ := zaP 600 (n := 4) (by omega) D
  have e1 : i64 (1 + v) = 1 + v := zX (by omega)
  by_cases hc : (k : Int) < 1 + v
  ·obtain ⟨u, p2, h2, m2, D2⟩ := zaP 600 (n := 3) (by omega) D1
   have hs := zwy k (by omega)
   obtain ⟨q, hq⟩ : ∃ q : RT1, q = (AB, st k, LC, CH, t + 30, t + 30, t + 30 + u, 3, 0, ()) := ⟨_, rfl⟩
   have hfin : ∀ i (h : i < (L ++ [q]).length), j7 i (L ++ [q])[i] /\ tmP (L ++ [q])[i] = t + 30 := fun i h => by
    rw [List.getElem_append]
    split
    ·exact hL i _
    ·simp at h
     obtain rfl : i = k := by omega
     simp [hl, hq, j7]
   obtain ⟨L', p', r1, r2, r3, r4⟩ := ih (k + 1) f p2 (L ++ [q]) (by omega) (by omega) D2 (by simp [hl]) hfin
   refine ⟨L', p', ?_, r2, r3, r4⟩
   show (ZB 600).b _ _ ((ZB 600).L f) some = _
   generalize (ZB 600).L f = Lf at r1 |-
   have e2 : decide ((k : Int) < 1 + v) = true := dT (by omega)
   have e3 : i64 (10 * 3) = 30 := by decide
   have e4 : i64 (t + 30) = t + 30 := zX (by omega)
   have e5 : i64 (t + 30 + u) = t + 30 + u := zX (by omega)
   have e6 := zp (show k < 1000000 by omega)
   have hb : ((z9 L).2.2.2.2.2.2.2.2.2.1.length + [zq q].length) * 104 <= zh := by
    unfold zh z9; simp; omega
   have hz : z9 (L ++ [q]) = ((⟨#[]⟩ : ByteArray), (⟨#[]⟩ : ByteArray), (⟨#[]⟩ : ByteArray), (⟨#[]⟩ : ByteArray), 0, 0, 0, 0, 0, L.map zq ++ [zq q], 0, 0, 0, 0, 0, 0, 0, 0, 0, 0, 0, 0, 0, 0, 0, ()) := by
    simp only [z9, List.map_append, List.map_cons, List.map_nil]
   rw [hz] at r1
   simp only [ZB]
   simp only [f8a, h1, e1, e2, hs, h2, e3, e4, e5, e6, <- hq]
   exact (if_pos hb).trans r1
  ·refine ⟨L, p1, ?_, by omega, hL, D1⟩
   show (ZB 600).b _ _ ((ZB 600).L f) some = _
   have e2 : decide ((k : Int) < 1 + v) = false := dF (by omega)
   simp only [ZB]
   simp only [f8a, h1, e1, e2]
theorem zAe {xs : List Int} {p : Int} (D : Sc xs p) : ∃ (e : RT0) (p' : Int), zqi 600 (3, zA xs, p) = some (e, zA xs, p') /\ EvG e /\ Sc xs p' := by
 obtain ⟨v, p1, h1, m1, D1⟩ := zaP 600 (n := 300) (by omega) D
 have e1 : i64 (1000 + v) = 1000 + v := zX (by omega)
 obtain ⟨L, p2, h2, hl, hL, D2⟩ := zss (1000 + v) (by omega) 4 0 600 p1 [] rfl (by omega) D1 rfl (fun i h => by cases h)
 have hone : OneT L := ⟨hl.1, hl.2, fun i h => (hL i h).1, fun i h => by rw [(hL i h).2, (hL 0 (by omega)).2]⟩
 obtain ⟨x, y, z, p3, h3, D3⟩ := zjq D2
 obtain ⟨u4, p4, h4, m4, D4⟩ := zaP 600 (n := 40) (by omega) D3
 obtain ⟨u5, p5, h5, m5, D5⟩ := zpB 600 [0, 0, 5, 500] (by simp) D4
 replace h5 : zlf 600 ([[AV.v (.int .i64 0)], [AV.v (.int .i64 0)], [AV.v (.int .i64 5)], [AV.v (.int .i64 500)]], zA xs, p4) = some (u5, zA xs, p5) := h5
 obtain ⟨u6, p6, h6, m6, D6⟩ := zaP 600 (n := 3) (by omega) D5
 replace h2 : (ZB 600).L 600 (3, 1000 + v, 0, zA xs, p1, z8, z9 []) = some (1000 + v, zA xs, p2, z8, z9 L) := h2
 unfold z8 z9 at h2
 have g0 : (L.map zq)[(0 : Int).toNat]? = some (zq L[0]) := zbe L 0 (by omega)
 have z0 : (0 : Int) <= 0 := by omega
 replace h2 : zoW 600 (3, 1000 + v, 0, zA xs, p1, ((⟨#[]⟩ : ByteArray), (⟨#[]⟩ : ByteArray), (⟨#[]⟩ : ByteArray), (⟨#[]⟩ : ByteArray), 0, 0, 0, 0, 0, ([] : List (List AV)), 0, 0, 0, 0, 0, 0, 0, 0, 0, 0, 0, 0, 0, 0, 0, ()), ((⟨#[]⟩ : ByteArray), (⟨#[]⟩ : ByteArray), (⟨#[]⟩ : ByteArray), (⟨#[]⟩ : ByteArray), 0, 0, 0, 0, 0, ([] : List (List AV)), 0, 0, 0, 0, 0, 0, 0, 0, 0, 0, 0, 0, 0, 0, 0, ())) = _ := h2
 simp only [zqi, FSpec.d, zeu]
 simp only [f8a, f51a, f52a, h1, e1, h2, z0, if_true, g0, Zq, h3, h4, h5, h6]
 by_cases hc : u6 > 0
 ·obtain ⟨u7, p7, h7, m7, D7⟩ := zaP 600 (n := 400) (by omega) D6
  obtain ⟨u8, p8, h8, m8, D8⟩ := zaP 600 (n := 60) (by omega) D7
  simp only [hc, decide_true, h7, h8]
  exact ⟨_, _, rfl, zCd (P := L) hone rfl rfl, D8⟩
 ·simp only [hc, decide_false]
  exact ⟨_, _, rfl, zCd (P := L) hone rfl rfl, D6⟩
end Go.Proofs.YthdgnfcbehcplaaDoor
end
section
namespace Go.Proofs.YthdgnfcbehcplaaDoor
theorem zh6 {A : List RT0} {t : Int} {u : RT7} {k : Int} (h : ZW (kdV u) = false) : zcm A t u k = none := by
 unfold zcm
 rw [if_neg (by rw [h]; decide)]
theorem zhy {A : List RT0} {t : Int} {x : List RT7} {k : Int} (hne : x ≠ []) (h : ZW (kdV (x.getLast hne)) = false) : zcv A t x k = x := by
 unfold zcv
 rw [zo2 hne]
 dsimp only
 rw [zh6 h]
theorem zvh {C : List (List RT7)} {A : List RT0} {L : List Int} {t : Int} (hL : L.length = C.length) : C.length <= (zjK C A L t).length := by
 unfold zjK
 rw [List.length_append, zfL hL]
 omega
theorem ztJ {C : List (List RT7)} {A : List RT0} {L : List Int} {t : Int} (hL : L.length = C.length) (k : Nat) (h : k < C.length) (h' : k < (zjK C A L t).length) : (zjK C A L t)[k] = zcv A t C[k] (L[k]'(by omega)) := by
 refine (zB0 (List.zipWith (zcv A t) C L) _ k (by rw [zfL hL]; exact h) h').trans ?_
 rw [List.getElem_zipWith]
theorem zsQ {xs : List Int} (id n : Nat) (x : List RT7) (hne : x ≠ []) (hcl : ZW (kdV (x.getLast hne)) = false) (hn : x.length = n) : ∀ (d i f : Nat) (p t : Int) (D : List (List RT7)) (m e : Nat), i + d = 3 -> d < f -> CG t m e D -> e + 4 * d <= 60 -> m + d <= 90 -> 0 <= t -> t + 10 * d <= 100000 -> Sc xs p -> ∀ (h : id < D.length), D[id] = x ->
  ∃ (t' : Int) (D' : List (List RT7)), (jG 600).L f (t, (id : Int), (n : Int), (i : Int), zG D, zA xs, p) = some (.inr (t', (id : Int), (n : Int), zG D')) /\ CG t' (m + d) (e + 4 * d) D' /\ 0 <= t' /\ t' <= 100000 /\ ∃ h : id < D'.length, D'[id] = x := by
 intro d
 induction d with
 | zero =>
  intro i f p t D m e hi hf hD he hm h0 h1 hS hid hx
  obtain ⟨f, rfl⟩ := pS hf
  refine ⟨t, D, ?_, hD, h0, by omega, hid, hx⟩
  show (jG 600).b _ _ ((jG 600).L f) some = _
  have e2 : decide ((i : Int) < 3) = false := dF (by omega)
  simp only [jG]
  simp only [e2]
 | succ d ih =>
  intro i f p t D m e hi hf hD he hm h0 h1 hS hid hx
  obtain ⟨f, rfl⟩ := pS hf
  have hDl := hD.le
  obtain ⟨A, p1, g1, l1, v1, S1⟩ := zmx 4 (by omega) hS
  replace g1 : zwf 600 (4, zA xs, p) = some (A.map zB, zA xs, p1) := g1
  have t1 : i64 (t + 10) = t + 10 := zX (by omega)
  obtain ⟨L, q1, q2, q3, q4⟩ := zmN hD (by omega) v1 (by omega) (by omega) (t := t + 10) (by omega) h0 (by omega)
  have hLl := q2.inv.1
  have hlen := zvh (A := A) (t := t + 10) hLl
  obtain ⟨E, hE⟩ : ∃ E, E = zjK D A L (t + 10) := ⟨_, rfl⟩
  have hidE : id < E.length := by rw [hE]; omega
  have hEx : E[id] = x := by
   subst hE
   rw [ztJ hLl id hid]
   have hc : ZW (kdV (D[id].getLast (by rw [hx]; exact hne))) = false := by
    have : D[id].getLast (by rw [hx]; exact hne) = x.getLast hne := by congr 1
    rw [this]; exact hcl
   rw [zhy _ hc, hx]
  rw [<- hE] at q3 q4 hlen
  obtain ⟨t', D', r1, r2, r3, r4, r5⟩ := ih (i + 1) f p1 (t + 10) E (m + 1) (e + 4) (by omega) (by omega) (q4.mono (Int.le_refl _) (Nat.le_refl _) (by omega)) (by omega) (by omega) (by omega) (by omega) S1 hidE hEx
  refine ⟨t', D', ?_, r2.mono (Int.le_refl _) (by omega) (by omega), r3, r4, r5⟩
  show (jG 600).b _ _ ((jG 600).L f) some = _
  generalize (jG 600).L f = Lf at r1 |-
  have e2 : decide ((i : Int) < 3) = true := dT (by omega)
  have c1 : ((0 : Int) != 0) = false := by decide
  have c2 : decide ((E.length : Int) < (D.length : Int)) = false := dF (by omega)
  have c3 : decide ((E.length : Int) <= (id : Int)) = false := dF (by omega)
  have c4 : 0 <= (id : Int) := by omega
  have c5 : (((E[id].map zN).length : Int) != (n : Int)) = false := by rw [hEx]; simp [hn]
  simp only [jG]
  simp only [e2, f9a, g1, t1, q3, c1, zS, c2, c3, c4, if_true, Int.toNat_natCast, zT E id hidE, zdc, zhw, c5, zp (show i < 1000000 by omega)]
  exact r1
theorem zvA {xs : List Int} {p t : Int} {m e : Nat} {C : List (List RT7)} (hC : CG t m e C) (he : e <= 48) (hm : m <= 60) (h0 : 0 <= t) (ht : t <= 10000) (hS : Sc xs p) (id : Nat) (hid : id < C.length) (v : RT7) (hv : ZW (kdV v) = false) (hD : CG t (m + 1) e (C.set id (C[id] ++ [v]))) :
  ∃ (t' : Int) (D' G q : List (List AV)) (g : List (List AV)), zgT 600 (t, (id : Int), ((C[id].length + 1 : Nat) : Int), 0, zG (C.set id (C[id] ++ [v])), zA xs, p) = some (.inr (t', (id : Int), ((C[id].length + 1 : Nat) : Int), D')) /\ zcG 600 (D', (id : Int), (⟨#[98, 111, 98]⟩ : ByteArray), t') = some (G, 0) /\ zcG 600 (G, (id : Int), (⟨#[98, 111, 98]⟩ : ByteArray), t') = some (q, 10) /\ id < G.length /\ G[id]? = some [AV.list 29 g none] /\ g.length = C[id].length + 2 := by
 have hxl := (hC.xs id hid).le
 obtain ⟨t', D', r1, r2, r3, r4, h5, r5⟩ := zsQ (xs := xs) id (C[id].length + 1) (C[id] ++ [v]) (by simp) (by simpa using hv) (by simp) 3 0 600 p t (C.set id (C[id] ++ [v])) (m + 1) e rfl (by omega) hD (by omega) (by omega) h0 (by omega) hS (by simpa using hid) (by simp)
 replace r1 : (jG 600).L 600 (t, (id : Int), ((C[id].length + 1 : Nat) : Int), 0, zG (C.set id (C[id] ++ [v])), zA xs, p) = _ := r1
 have hx := r2.xs id h5
 have hlast : D'[id].getLast hx.ne = v := by
  have : D'[id].getLast hx.ne = (C[id] ++ [v]).getLast (by simp) := by congr 1
  rw [this]; simp
 have sy : Say 6 bob 0 zE := ⟨.inr (.inr (.inr rfl)), .inr rfl, fun h => (by cases h), fun _ => rfl, Int.le_refl _⟩
 obtain ⟨a1, a2⟩ := zwL r2 (by omega) (by omega) (Int.le_refl t') r3 (by omega) sy id h5 (by omega) (by
  rintro (⟨h, _⟩ | ⟨_, h⟩)
  ·cases h
  ·rw [hlast, hv] at h; cases h)
 obtain ⟨w, hw⟩ : ∃ w, w = zgs 6 t' bob 0 zE (evV (D'[id].getLast hx.ne)) := ⟨_, rfl⟩
 rw [<- hw] at a1 a2
 obtain ⟨G, hG⟩ : ∃ G, G = D'.set id (D'[id] ++ [w]) := ⟨_, rfl⟩
 rw [<- hG] at a1 a2
 have h6 : id < G.length := by rw [hG]; simpa using h5
 have hGx : G[id] = D'[id] ++ [w] := by subst hG; simp
 obtain ⟨q, y, b1, b2⟩ := zBq a2 (by omega) (by omega) (Int.le_refl t') r3 (by omega) sy id
 have hgl : G[id].getLast (a2.xs id h6).ne = w := by
  have : G[id].getLast (a2.xs id h6).ne = (D'[id] ++ [w]).getLast (by simp) := by congr 1
  rw [this]; simp
 have hy : y = 10 := by
  rcases b2 with ⟨_, _, b2⟩ | ⟨_, _, hne, _, b2, _⟩
  ·exact (b2 h6 (a2.xs id h6).ne (by omega)).1
  ·refine absurd (.inr ⟨rfl, ?_⟩) b2
   rw [hgl, hw]; rfl
 refine ⟨t', zG D', zG G, q, (D'[id] ++ [w]).map zN, r1, ?_, ?_, by rw [zS]; exact h6, ?_, ?_⟩
 ·exact (zgK D' (id : Int) bob t').trans a1
 ·rw [hy] at b1
  exact (zgK G (id : Int) bob t').trans b1
 ·rw [zT G id h6, hGx]; rfl
 ·rw [r5]; simp
theorem zlR (xs : List Int) (kind : Int) : zEG 600 (zA xs, kind) = some true := by
 obtain ⟨n1, D0⟩ := zAV 600 xs
 obtain ⟨a, p1, g1, m1, D1⟩ := zaP 600 (n := 6) (by omega) D0
 obtain ⟨k, rfl⟩ : ∃ k : Nat, a = (k : Int) := ⟨a.toNat, by omega⟩
 have i1 : i64 (2 + (k : Int)) = ((2 + k : Nat) : Int) := by rw [zX (by omega)]; omega
 obtain ⟨C, t, p2, g2, D2, t1, t2, hC⟩ := zuO D1 (2 + k) (by omega)
 have hle := hC.le
 have hT : t <= 10000 := by omega
 simp only [zEG, FSpec.d, zzR]
 simp only [n1, f8a, g1, i1, f7a, g2, zS]
 by_cases hl : C.length < 2
 ·have c1 : decide ((C.length : Int) < 2) = true := dT (by omega)
  simp only [c1, zcq]
 have c1 : decide ((C.length : Int) < 2) = false := dF (by omega)
 obtain ⟨b, p3, g3, m3, D3⟩ := zaP 600 (n := (C.length : Int)) (by omega) D2
 obtain ⟨id, rfl⟩ : ∃ id : Nat, b = (id : Int) := ⟨b.toNat, by omega⟩
 have hid : id < C.length := by omega
 obtain ⟨x, p4, g4, hx, D4⟩ := zAe D3
 obtain ⟨r, g5, r0, r3⟩ := zww 600 kind (n := 3) (by omega)
 have c0 : 0 <= (id : Int) := by omega
 have hxi := hC.xs id hid
 have hxl := hxi.le
 have hn : i64 ((C[id].length : Int) + 1) = ((C[id].length + 1 : Nat) : Int) := by rw [zX (by omega)]; omega
 have hn2 : i64 (((C[id].length + 1 : Nat) : Int) + 1) = ((C[id].length + 2 : Nat) : Int) := by rw [zX (by omega)]; omega
 have z1 : ((0 : Int) != 0) = false := by decide
 have z2 : ((0 : Int) == 0) = true := by decide
 have z3 : ((10 : Int) == 10) = true := by decide
 simp only [c1, g3, g4, g5]
 have fin : ∀ (k : Int) (b : ByteArray) (to : Int) (e1 : RT0), Say k b to e1 -> k ≠ 6 -> to < C.length -> (k = 5 -> to ≠ (id : Int)) -> ∃ (D : List (List AV)) (t' : Int) (D' G q : List (List AV)) (g : List (List AV)), Jy 600 (zG C, (id : Int), (k, t, b, to, e1)) = some (D, 0) /\ zgT 600 (t, (id : Int), ((C[id].length + 1 : Nat) : Int), 0, D, zA (xs.take 2000), p4) = some (.inr (t', (id : Int), ((C[id].length + 1 : Nat) : Int), D')) /\ zcG 600 (D', (id : Int), (⟨#[98, 111, 98]⟩ : ByteArray), t') = some (G, 0) /\ zcG 600 (G, (id : Int), (⟨#[98, 111, 98]⟩ : ByteArray), t') = some (q, 10) /\ decide ((G.length : Int) > (id : Int)) = true /\ G[id]? = some [AV.list 29 g none] /\ ((g.length : Int) == ((C[id].length + 2 : Nat) : Int)) = true := fun k b to e1 hs h6 hto h5 => by
  obtain ⟨a1, a2⟩ := zwL hC (by omega) (by omega) (Int.le_refl t) (by omega) (by omega) hs id hid hto (by
   rintro (⟨h, h'⟩ | ⟨h, _⟩)
   ·exact h5 h h'
   ·exact h6 h)
  have hcl : ZW (kdV (zgs k t b to e1 (evV (C[id].getLast hxi.ne)))) = false := by
   show ZW k = false
   rcases hs.kd with rfl | rfl | rfl | rfl
   ·rfl
   ·rfl
   ·rfl
   ·exact absurd rfl h6
  obtain ⟨t', D', G, q, g, b1, b2, b3, b4, b5, b6⟩ := zvA hC (by omega) (by omega) (by omega) (by omega) D4 id hid _ hcl a2
  exact ⟨_, t', D', G, q, g, a1, b1, b2, b3, dT (by omega), b5, by rw [b6]; simp⟩
 have l0 : ∀ g : List (List AV), (([AV.list 29 g none] : List AV).drop 0)[0]? = some (AV.list 29 g none) := fun g => rfl
 rcases (show r = 0 \/ r = 1 \/ r = 2 by omega) with rfl | rfl | rfl
 ·obtain ⟨D, t', D', G, q, g, f1, f2, f3, f4, f5, f6, f7⟩ := fin 3 ann 0 x ⟨.inl rfl, .inl rfl, fun _ => hx, fun _ => rfl, Int.le_refl _⟩ (by decide) (by omega) (fun h => by cases h)
  have hact : zsR 600 (zG C, (id : Int), (⟨#[97, 110, 110]⟩ : ByteArray), x, t) = some (D, 0) := (zt8 C (id : Int) ann x t).trans f1
  simp only [z2, hact, z1, c0, if_true, Int.toNat_natCast, zT C id hid, zdc, zhw, List.length_map, hn, f2, f3, f4, z3, f5, f6, l0, hn2, f7, zcq]
 ·obtain ⟨D, t', D', G, q, g, f1, f2, f3, f4, f5, f6, f7⟩ := fin 4 ann 0 zE ⟨.inr (.inl rfl), .inl rfl, fun h => (by cases h), fun _ => rfl, Int.le_refl _⟩ (by decide) (by omega) (fun h => by cases h)
  have hact : zzH 600 (zG C, (id : Int), (⟨#[97, 110, 110]⟩ : ByteArray), t) = some (D, 0) := (zuJ C (id : Int) ann t).trans f1
  have y1 : ((1 : Int) == 0) = false := by decide
  have y2 : ((1 : Int) == 1) = true := by decide
  simp only [y1, y2, z2, hact, z1, c0, if_true, Int.toNat_natCast, zT C id hid, zdc, zhw, List.length_map, hn, f2, f3, f4, z3, f5, f6, l0, hn2, f7, zcq]
 ·have hto : (i64 ((id : Int) + 1)).tmod (C.length : Int) = (((id + 1) % C.length : Nat) : Int) := by
   rw [show i64 ((id : Int) + 1) = ((id + 1 : Nat) : Int) by rw [zX (by omega)]; omega]
   exact (Int.ofNat_tmod _ _).symm
  have htl : (id + 1) % C.length < C.length := Nat.mod_lt _ (by omega)
  have htn : (id + 1) % C.length ≠ id := by
   by_cases h : id + 1 < C.length
   ·rw [Nat.mod_eq_of_lt h]; omega
   ·rw [show id + 1 = C.length by omega, Nat.mod_self]; omega
  obtain ⟨D, t', D', G, q, g, f1, f2, f3, f4, f5, f6, f7⟩ := fin 5 ann (((id + 1) % C.length : Nat) : Int) zE ⟨.inr (.inr (.inl rfl)), .inl rfl, fun h => (by cases h), fun h => absurd rfl h, by omega⟩ (by decide) (by omega) (fun _ => by omega)
  have hact : zzG 600 (zG C, (id : Int), (((id + 1) % C.length : Nat) : Int), (⟨#[97, 110, 110]⟩ : ByteArray), t) = some (D, 0) := (zyv C (id : Int) _ ann t).trans f1
  have y1 : ((2 : Int) == 0) = false := by decide
  have y2 : ((2 : Int) == 1) = false := by decide
  have y3 : ((C.length : Int) = 0) = False := by simp; intro h; rw [h] at hl; simp at hl
  simp only [y1, y2, y3, if_false, hto, z2, hact, z1, c0, if_true, Int.toNat_natCast, zT C id hid, zdc, zhw, List.length_map, hn, f2, f3, f4, z3, f5, f6, l0, hn2, f7, zcq]
end Go.Proofs.YthdgnfcbehcplaaDoor
end
section
namespace Go.Proofs.YthdgnfcbehcplaaDoor
open Go.RowKit
def bD (bs : List Bool) : DataW Unit := .agg (bs.map fun b => .lit (.bool b))
theorem jq {enc : TypeId × Value -> Unit} {P : Program} {w : World} {base : Nat} {sp : Nat -> Bool} {held : Bool} {fuel : Nat} {t e : TypeId} {n : Nat} {cs : List Value} {bs : List Bool} {p : List MemPlace}
  (ht : P.underlying t = some (.array n e)) (he : P.underlying e = some .bool) (hce : P.cellsOf e = 1) (hct : P.cellsOf t = n)
  (h : DataW.trod enc P w base sp held fuel t cs = some (bD bs, p)) : cs = bs.map Value.bool := by
 obtain ⟨xs, m, _, hx, hl, hn, hf⟩ := DataW.trod_array ht h
 have hxs : xs.map (·.1) = bs.map fun b => (DataW.lit (.bool b) : DataW Unit) := by
  have := congrArg Prod.fst hx
  unfold bD at this
  exact (DataW.agg.inj this).symm
 have hbl : bs.length = n := by
  have := congrArg List.length hxs
  simp at this
  omega
 rw [hce] at hf
 apply List.ext_getElem?
 intro i
 by_cases hi : i < n
 ·have hxi : xs[i]? = some xs[i] := List.getElem?_eq_getElem (by omega)
  have hfi := hf i hi
  rw [hxi] at hfi
  obtain ⟨b, hc, hb⟩ := DataW.trod_bool he hfi
  have h1 : cs[i]? = some (.bool b) := by
   have := congrArg (·[0]?) hc
   simpa [List.getElem?_take, List.getElem?_drop] using this
  have h2 : (xs.map (·.1))[i]? = some (DataW.lit (.bool b) : DataW Unit) := by simp [hxi, hb]
  rw [hxs] at h2
  simp only [List.getElem?_map, Option.map_eq_some_iff, DataW.lit.injEq, Lit.bool.injEq] at h2
  obtain ⟨z', hz', rfl⟩ := h2
  simp [h1, hz']
 ·rw [List.getElem?_eq_none (by omega), List.getElem?_eq_none (by simp; omega)]
theorem zdg {enc : TypeId × Value -> Unit} {P : Program} {w : World} {base : Nat} {sp : Nat -> Bool} {held : Bool} {fuel : Nat} {t r e : TypeId} {cs : List Value} {a0 a1 a2 a3 a4 a5 a6 : List Bool} {p : List MemPlace}
  (ht : P.underlying t = some (.array 7 r)) (hr : P.underlying r = some (.array 7 e)) (he : P.underlying e = some .bool) (hce : P.cellsOf e = 1) (hcr : P.cellsOf r = 7) (hct : P.cellsOf t = 49)
  (h : DataW.trod enc P w base sp held fuel t cs = some (.agg [bD a0, bD a1, bD a2, bD a3, bD a4, bD a5, bD a6], p)) : cs = (a0 ++ a1 ++ a2 ++ a3 ++ a4 ++ a5 ++ a6).map Value.bool := by
 obtain ⟨xs, m, _, hx, hl, hn, hf⟩ := DataW.trod_array ht h
 have hxs : [bD a0, bD a1, bD a2, bD a3, bD a4, bD a5, bD a6] = xs.map (·.1) := by
  have := congrArg Prod.fst hx
  exact DataW.agg.inj this
 rw [hcr] at hf
 rw [hct] at hl
 match xs, hn, hxs, hf with
 | [x0, x1, x2, x3, x4, x5, x6], _, hxs, hf =>
  simp only [List.map_cons, List.map_nil, List.cons.injEq, and_true] at hxs
  obtain ⟨e0, e1, e2, e3, e4, e5, e6⟩ := hxs
  have g : ∀ (i : Nat) (x : DataW Unit × List MemPlace) (b : List Bool), i < 7 -> [x0, x1, x2, x3, x4, x5, x6][i]? = some x -> bD b = x.1 -> (cs.drop (i * 7)).take 7 = b.map Value.bool := fun i x b hi hx hb => by
   have h2 := hf i hi
   rw [hx] at h2
   obtain ⟨x1, x2⟩ := x
   dsimp only at hb
   subst hb
   exact jq hr he hce hcr h2
  have k0 := g 0 x0 a0 (by omega) rfl e0
  have k1 := g 1 x1 a1 (by omega) rfl e1
  have k2 := g 2 x2 a2 (by omega) rfl e2
  have k3 := g 3 x3 a3 (by omega) rfl e3
  have k4 := g 4 x4 a4 (by omega) rfl e4
  have k5 := g 5 x5 a5 (by omega) rfl e5
  have k6 := g 6 x6 a6 (by omega) rfl e6
  have s : ∀ j, cs.drop (j * 7) = (cs.drop (j * 7)).take 7 ++ cs.drop ((j + 1) * 7) := fun j => by
   rw [Nat.add_mul, Nat.one_mul, <- List.drop_drop, List.take_append_drop]
  have z : cs.drop (7 * 7) = [] := List.drop_eq_nil_of_le (by omega)
  have : cs = cs.drop (0 * 7) := rfl
  rw [this, s 0, s 1, s 2, s 3, s 4, s 5, s 6, z, k0, k1, k2, k3, k4, k5, k6]
  simp only [List.map_append, List.append_nil, List.append_assoc]
theorem zaT {W : World} {n : String} {g : Nat} (P : Program) (hn : P.globalNamed n = some g) {cs : Array Value} (h : W.var? P n = some cs) : ∃ t z, W.heap[g]? = some (.cells cs t z) := by
 unfold World.var? at h
 rw [hn] at h
 have h' : (match W.heap[g]? with | some (Obj.cells cs _ _) => some cs | _ => none) = some cs := h
 split at h'
 ·rename_i c t z hc
  cases h'
  exact ⟨t, z, hc⟩
 ·cases h'
def zCg : List (String × DataW Unit) := Rows.cataloguePersonsRow.laid
theorem zyj {W : World} (h : laidMetH Tryd.prog zCg W) : (∃ t z, W.heap[0]? = some (.cells gtab0.toArray t z)) /\ (∃ t z, W.heap[1]? = some (.cells gtab1.toArray t z)) /\ (∃ t z, W.heap[2]? = some (.cells gtab2.toArray t z)) /\ (∃ t z, W.heap[3]? = some (.cells gtab3.toArray t z)) := by
 rw [MakeChecks.laidMetH_plain _ _ _ (by kernel_rfl)] at h
 obtain ⟨ps, ⟨g1, t1, c1, f1, p1, q1, n1, y1, v1, d1, ⟨g3, t3, c3, f3, p3, q3, n3, y3, v3, d3, ⟨g0, t0, c0, f0, p0, q0, n0, y0, v0, d0, ⟨g2, t2, c2, f2, p2, q2, n2, y2, v2, d2, _, _⟩, _⟩, _⟩, _⟩, _⟩ := h
 have m1 : Tryd.prog.globalNamed "seismonet/catalogue.follows" = some 1 := by kernel_rfl
 have m3 : Tryd.prog.globalNamed "seismonet/catalogue.computed" = some 3 := by kernel_rfl
 have m0 : Tryd.prog.globalNamed "seismonet/catalogue.shown" = some 0 := by kernel_rfl
 have m2 : Tryd.prog.globalNamed "seismonet/catalogue.kept" = some 2 := by kernel_rfl
 obtain rfl := Option.some.inj (m1.symm.trans n1)
 obtain rfl := Option.some.inj (m3.symm.trans n3)
 obtain rfl := Option.some.inj (m0.symm.trans n0)
 obtain rfl := Option.some.inj (m2.symm.trans n2)
 have u1 : (Tryd.prog.globals[1]?).map (·.type) = some 94 := by kernel_rfl
 have u3 : (Tryd.prog.globals[3]?).map (·.type) = some 86 := by kernel_rfl
 have u0 : (Tryd.prog.globals[0]?).map (·.type) = some 86 := by kernel_rfl
 have u2 : (Tryd.prog.globals[2]?).map (·.type) = some 86 := by kernel_rfl
 obtain rfl := Option.some.inj (u1.symm.trans y1)
 obtain rfl := Option.some.inj (u3.symm.trans y3)
 obtain rfl := Option.some.inj (u0.symm.trans y0)
 obtain rfl := Option.some.inj (u2.symm.trans y2)
 have e4 : Tryd.prog.cellsOf 4 = 1 := by kernel_rfl
 have e86 : Tryd.prog.cellsOf 86 = 7 := by kernel_rfl
 have e94 : Tryd.prog.cellsOf 94 = 49 := by kernel_rfl
 have z0 : c0.toList = gtab0 := jq (bs := [false, true, false, true, false, false, true]) Tryd.underlying86 Tryd.underlying4 e4 e86 d0
 have z2 : c2.toList = gtab2 := jq (bs := [false, false, true, false, true, true, true]) Tryd.underlying86 Tryd.underlying4 e4 e86 d2
 have z3 : c3.toList = gtab3 := jq (bs := [false, true, true, false, false, false, false]) Tryd.underlying86 Tryd.underlying4 e4 e86 d3
 have z1 : c1.toList = gtab1 := zdg (a0 := [false, false, false, false, false, false, false]) (a1 := [false, true, true, false, false, false, true]) (a2 := [false, true, false, false, false, false, true]) (a3 := [false, true, true, true, true, true, true]) (a4 := [false, true, true, true, true, true, true]) (a5 := [false, true, true, true, true, true, true]) (a6 := [false, false, false, true, true, true, false]) Tryd.underlying94 Tryd.underlying86 Tryd.underlying4 e4 e86 e94 d1
 have w0 := zaT _ m0 v0
 have w1 := zaT _ m1 v1
 have w2 := zaT _ m2 v2
 have w3 := zaT _ m3 v3
 rw [<- z0, <- z1, <- z2, <- z3]
 exact ⟨w0, w1, w2, w3⟩
theorem zi3 {W : World} {g : Nat} {cs : List Value} (h1 : ∀ x ∈ cs, ∃ b, x = Value.bool b) (hw : ∃ t z, W.heap[g]? = some (.cells cs.toArray t z)) : (∀ j, (cs.getD j (.bool true)).oneCell' = true /\ (j < cs.length -> zij W g j = some (cs.getD j (.bool true)))) /\ (∃ (t : TypeId) (z : Nat × Nat), W.heap[g]? = some (.cells cs.toArray t z)) /\ some g ∉ ([] : List (Option Nat)) /\ ¬ InT zbf [] g := by
 refine ⟨fun j => ⟨?_, fun hj => ?_⟩, hw, fun h => (by cases h), fun ⟨t, h, _⟩ => (by cases h)⟩
 ·by_cases hj : j < cs.length
  ·rw [List.getD_eq_getElem?_getD, List.getElem?_eq_getElem hj]
   obtain ⟨b, hb⟩ := h1 _ (List.getElem_mem hj)
   rw [Option.getD_some, hb]; rfl
  ·rw [List.getD_eq_getElem?_getD, List.getElem?_eq_none (by simpa using hj)]
   rfl
 ·obtain ⟨t, z, hw⟩ := hw
  show W.cell? ⟨g, j, none⟩ = _
  rw [List.getD_eq_getElem?_getD, List.getElem?_eq_getElem hj, Option.getD_some]
  simp [World.cell?, hw, hj]
theorem zCN {W : World} (h : laidMetH Tryd.prog zCg W) : zu7 (zij W) W [] (InT zbf []) := by
 obtain ⟨w0, w1, w2, w3⟩ := zyj h
 have hb : ∀ (l : List Bool), ∀ x ∈ l.map Value.bool, ∃ b, x = Value.bool b := fun l x hx => by
  obtain ⟨b, _, e⟩ := List.mem_map.1 hx
  exact ⟨b, e.symm⟩
 intro g cs hg
 unfold glb at hg
 split at hg
 ·cases hg; exact zi3 (hb _) w0
 ·cases hg; exact zi3 (hb _) w1
 ·cases hg; exact zi3 (hb _) w2
 ·cases hg; exact zi3 (hb _) w3
 ·cases hg
end Go.Proofs.YthdgnfcbehcplaaDoor
end
section
namespace Go.Proofs.YthdgnfcbehcplaaDoor
open Go.RowKit
theorem Jp (a : Option Addr) (len cap : Nat) (n : Int) (W : World) (w : ziZ W (.slice a len cap)) (hn : -9223372036854775808 <= n /\ n <= 9223372036854775807) (hgl : zu7 (zij W) W [] (InT zbf [])) : Calls Tryd.prog 5 #[.slice a len cap, .int .i64 n] W fun e w' => e = .returned (.bool true) /\ Below W.heap.size W w' := by
 obtain ⟨xs, hb, hl, hr⟩ := w
 refine CallOk.calls ((F5_e 600).ok (zA xs, n) true (zlR xs n)) W _ rfl (fun i h h' => ?_) hgl
 rcases (show i = 0 \/ i = 1 by have : i < 2 := h'; omega) with rfl | rfl
 ·exact hr _ _
 ·exact .v
end Go.Proofs.YthdgnfcbehcplaaDoor
end
