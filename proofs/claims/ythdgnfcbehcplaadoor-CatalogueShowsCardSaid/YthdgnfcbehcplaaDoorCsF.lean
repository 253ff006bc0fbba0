/- Several texts as one (written by pack.py). -/
import Derived.Test.YthdgnfcbehcplaaDoorCsE
import Derived.Test.YthdgnfcbehcplaaDoorRows
import Derived.LaidMore
import Derived.Lay
import Derived.LaidLaws
import Derived.MakeChecks
import Derived.Stop.LaidErr
import Derived.Lib.LaidTab
import Derived.OpenShut
set_option linter.unusedVariables false
set_option linter.unusedSimpArgs false
set_option linter.unnecessarySimpa false
section
namespace Go.Proofs.YthdgnfcbehcplaaDoor
theorem Kd6.comp {k : Int} (h : Kd6 k) : (k == 1 || k == 2) = true ↔ (k = 1 \/ k = 2) := by simp
theorem zvg {T : Int} {n i : Nat} {v : RT7} (hT : T <= 18014398509481984) (h : VG T n i v) : zxD 600 (v, (i : Int), (n : Int)) = some true := by
 obtain ⟨hk, h0, hT', hb1, hb2, hi1, hi2, he⟩ := h
 obtain ⟨k1, a1, b1, i1, e1⟩ := v
 simp only [kdV, atV, byV, inV, evV] at hk h0 hT' hb1 hb2 hi1 hi2 he
 have c1 : decide (k1 < 1) = false := by rw [decide_eq_false_iff_not]; have := hk.lt; omega
 have c2 : decide (k1 > 6) = false := by rw [decide_eq_false_iff_not]; have := hk.lt; omega
 have c3 : decide (a1 < 0) = false := dF (by omega)
 have c4 : decide (a1 > 18014398509481984) = false := dF (by omega)
 have c5 : zn0 600 (zx (k1, a1, b1, i1, e1)) = some true := he.pv'
 have c6 : 0 <= k1 /\ k1 < 7 := ⟨hk.lt.1, hk.lt.2.1⟩
 have c7 := zvm hk
 simp only [zxD, FSpec.d, zkj]
 simp only [c1, c2, c3, c4, c5, Bool.not_true, c6, and_self, if_true, c7]
 have hin : ∀ (r : Bool), r = false -> True := λ _ _ => trivial
 by_cases h12 : k1 = 1 \/ k1 = 2
 ·have d1 : (k1 == 1 || k1 == 2) = true := hk.comp.2 h12
  have d2 : ((nob).toList == (⟨#[]⟩ : ByteArray).toList) = true := by kernel_rfl
  have d3 : (k1 == 5) = false := by simp; omega
  have d4 : (i1 == 0) = true := by simp [hi1 (by omega)]
  rw [hb1 h12]
  simp only [d1, d2, Bool.not_true, d3, d4]
 ·have d1 : (k1 == 1 || k1 == 2) = false := by
   cases hc : (k1 == 1 || k1 == 2) with
   | false => rfl
   | true => exact absurd (hk.comp.1 hc) h12
  have d2 := (zpJ (hb2 h12)).2.1
  simp only [d1, d2, Bool.not_true, Bool.not_false]
  by_cases h5 : k1 = 5
  ·obtain ⟨p1, p2, p3⟩ := hi2 h5
   have d3 : (k1 == 5) = true := by simp [h5]
   have d4 : decide (i1 >= 0) = true := dT (by omega)
   have d5 : decide (i1 < (n : Int)) = true := dT (by omega)
   have d6 : (i1 != (i : Int)) = true := by simp [p3]
   simp only [d3, d4, d5, d6]
  ·have d3 : (k1 == 5) = false := by simp [h5]
   have d4 : (i1 == 0) = true := by simp [hi1 h5]
   simp only [d3, d4]
theorem zpR {T : Int} {m e : Nat} {C : List (List RT7)} (hT : T <= 18014398509481984) (he : e <= 500) (hm : m <= 100) (hC : CG T m e C) (i : Nat) (hi : i < C.length) : ∀ (d k f : Nat), k + d = C[i].length -> d < f -> (ZN 600).L f (zO C, C[i].map zQ, (i : Int), (C.length : Int), (i : Int), (C[i].length : Int), (k : Int), zO C, C[i].map zQ) = some (.inr (zO C, (C.length : Int), (i : Int), zO C)) := by
 have h := hC.xs i hi
 have hle := hC.le
 have hxl := h.le
 intro d
 induction d with
 | zero =>
  intro k f hk hf
  obtain ⟨f, rfl⟩ := pS hf
  show (ZN 600).b _ _ ((ZN 600).L f) some = _
  have e2 : decide ((k : Int) < (C[i].length : Int)) = false := dF (by omega)
  simp only [ZN]
  simp only [e2]
 | succ d ih =>
  intro k f hk hf
  obtain ⟨f, rfl⟩ := pS hf
  have r1 := ih (k + 1) f (by omega) (by omega)
  show (ZN 600).b _ _ ((ZN 600).L f) some = _
  generalize (ZN 600).L f = Lf at r1 |-
  obtain ⟨x, hx⟩ : ∃ x, x = C[i] := ⟨_, rfl⟩
  rw [<- hx] at h hxl hk r1 |-
  have hkl : k < x.length := by omega
  have e2 : decide ((k : Int) < (x.length : Int)) = true := dT (by omega)
  have h0 : 0 <= (k : Int) := by omega
  have hv := h.vs k hkl
  have hs := zvg hT hv
  have n1 := zp (show k < 1000000 by omega)
  simp only [ZN]
  simp only [e2, h0, if_true, Int.toNat_natCast, zuI x k hkl, rd7, zT, hs, Bool.not_true, n1]
  by_cases hk0 : k = 0
  ·subst hk0
   have d6 : (((0 : Nat) : Int) == 0) = true := by decide
   simp only [d6]
   exact r1
  ·have d6 : ((k : Int) == 0) = false := by simp [hk0]
   obtain ⟨k', rfl⟩ : ∃ k', k = k' + 1 := ⟨k - 1, by omega⟩
   obtain ⟨s1, s2, s3⟩ := h.st k' hkl
   have hv' := h.vs k' (by omega)
   have d7 : i64 (((k' + 1 : Nat) : Int) - 1) = (k' : Int) := by rw [Zu (by omega)]; omega
   have d8 : decide (x[k' + 1].2.1 < x[k'].2.1) = false := by rw [decide_eq_false_iff_not]; simp only [atV] at s1; omega
   have h0' : 0 <= (k' : Int) := by omega
   have q1 : 0 <= x[k' + 1].1 /\ x[k' + 1].1 < 7 := ⟨hv.kd.lt.1, hv.kd.lt.2.1⟩
   have q2 : 0 <= x[k'].1 /\ x[k'].1 < 7 := ⟨hv'.kd.lt.1, hv'.kd.lt.2.1⟩
   have t1 := zzg hv.kd hv'.kd
   have t2 := zvn hv.kd
   simp only [kdV] at t1 t2 s2
   rw [s2] at t1
   simp only [d6, d7, h0', if_true, Int.toNat_natCast, zuI x k' (by omega), rd7, d8, q1, q2, and_self, t1, Bool.not_true, t2]
   cases hkp : zcn x[k' + 1].1 with
   | false => exact r1
   | true =>
    have s4 := s3 hkp
    obtain ⟨b, w1, w2⟩ := zi5 (evV x[k' + 1]) (evV x[k']) hv.ev.pk hv'.ev.pk
    rw [w2.2 s4.symm] at w1
    replace w1 : zj7 600 (zx x[k' + 1], zx x[k']) = some true := w1
    simp only [w1, Bool.not_true]
    exact r1
theorem zln {T : Int} {m e : Nat} {C : List (List RT7)} (hT : T <= 18014398509481984) (he : e <= 500) (hm : m <= 100) (hC : CG T m e C) : ∀ (d k f : Nat), k + d = C.length -> d < f -> (jC 600).L f (zO C, (C.length : Int), (k : Int), zO C) = some (.inr ()) := by
 have hle := hC.le
 intro d
 induction d with
 | zero =>
  intro k f hk hf
  obtain ⟨f, rfl⟩ := pS hf
  show (jC 600).b _ _ ((jC 600).L f) some = _
  have e2 : decide ((k : Int) < (C.length : Int)) = false := dF (by omega)
  simp only [jC]
  simp only [e2]
 | succ d ih =>
  intro k f hk hf
  obtain ⟨f, rfl⟩ := pS hf
  have r1 := ih (k + 1) f (by omega) (by omega)
  have hkl : k < C.length := by omega
  have h := hC.xs k hkl
  have hp := h.pos
  have hxl := h.le
  have r2 := zpR hT he hm hC k hkl C[k].length 0 600 (by omega) (by omega)
  replace r2 : (ZN 600).L 600 (zO C, C[k].map zQ, (k : Int), (C.length : Int), (k : Int), (C[k].length : Int), 0, zO C, C[k].map zQ) = _ := r2
  show (jC 600).b _ _ ((jC 600).L f) some = _
  generalize (jC 600).L f = Lf at r1 |-
  have e2 : decide ((k : Int) < (C.length : Int)) = true := dT (by omega)
  have h0 : 0 <= (k : Int) := by omega
  have n1 := zp (show k < 1000000 by omega)
  have c1 : decide ((C[k].length : Int) < 1) = false := dF (by omega)
  have c2 : decide ((C[k].length : Int) > 100) = false := dF (by omega)
  have c3 : (C[k].map zQ)[(0 : Int).toNat]? = some (zQ C[k][0]) := zuI C[k] 0 hp
  have c4 : ((zQ C[k][0]).drop 0)[0]? = some (.v (.int .i64 C[k][0].1)) := rfl
  have c5 : (C[k][0].1 != 1) = false := by have := h.hd hp; simp only [kdV] at this; simp [this]
  have c6 : (0 : Int) <= 0 := by omega
  simp only [jC]
  simp only [e2, h0, if_true, Int.toNat_natCast, zS C k hkl, rd6, List.length_map, c1, c2, c6, c3, c4, c5, zl5, r2, n1]
  exact r1
theorem zoV {T : Int} {m e : Nat} {C : List (List RT7)} (hT : T <= 18014398509481984) (he : e <= 500) (hm : m <= 100) (h : CG T m e C) : zjO 600 (zO C) = some true := by
 have hle := h.le
 have h1 := zln hT he hm h C.length 0 600 (by omega) (by omega)
 replace h1 : (jC 600).L 600 (zO C, (C.length : Int), 0, zO C) = some (.inr ()) := h1
 have e2 : decide ((C.length : Int) > 500) = false := dF (by omega)
 simp only [zjO, FSpec.d, zdS, zvz, zT, e2, h1]
theorem zpF {T : Int} {m e : Nat} {C : List (List RT7)} (he : e <= 500) (hm : m <= 100) (hC : CG T m e C) (i : Nat) (hi : i < C.length) : ∀ (d k f : Nat) (y : Int), k + d = C[i].length -> d < f -> y <= T -> ∃ y', (ZT 600).L f (zO C, C[i].map zQ, y, (C.length : Int), (i : Int), (C[i].length : Int), (k : Int)) = some (zO C, y', (C.length : Int), (i : Int)) /\ y' <= T := by
 have h := hC.xs i hi
 have hle := hC.le
 have hxl := h.le
 intro d
 induction d with
 | zero =>
  intro k f y hk hf hy
  obtain ⟨f, rfl⟩ := pS hf
  refine ⟨y, ?_, hy⟩
  show (ZT 600).b _ _ ((ZT 600).L f) some = _
  have e2 : decide ((k : Int) < (C[i].length : Int)) = false := dF (by omega)
  simp only [ZT]
  simp only [e2]
 | succ d ih =>
  intro k f y hk hf hy
  obtain ⟨f, rfl⟩ := pS hf
  have hkl : k < C[i].length := by omega
  have hv := (h.vs k hkl).atT
  obtain ⟨y', r1, r2⟩ := ih (k + 1) f (if C[i][k].2.1 > y then C[i][k].2.1 else y) (by omega) (by omega) (by
   simp only [atV] at hv
   split <;> omega)
  refine ⟨y', ?_, r2⟩
  show (ZT 600).b _ _ ((ZT 600).L f) some = _
  generalize (ZT 600).L f = Lf at r1 |-
  have e2 : decide ((k : Int) < (C[i].length : Int)) = true := dT (by omega)
  have h0 : 0 <= (k : Int) := by omega
  simp only [ZT]
  simp only [e2, h0, if_true, Int.toNat_natCast, zuI C[i] k hkl, rd7, zp (show k < 1000000 by omega)]
  exact r1
theorem zli {T : Int} {m e : Nat} {C : List (List RT7)} (he : e <= 500) (hm : m <= 100) (hC : CG T m e C) : ∀ (d k f : Nat) (y : Int), k + d = C.length -> d < f -> y <= T -> ∃ y' : Int, (jJ 600).L f (zO C, y, (C.length : Int), (k : Int)) = some y' /\ y' <= T := by
 have hle := hC.le
 intro d
 induction d with
 | zero =>
  intro k f y hk hf hy
  obtain ⟨f, rfl⟩ := pS hf
  refine ⟨y, ?_, hy⟩
  show (jJ 600).b _ _ ((jJ 600).L f) some = _
  have e2 : decide ((k : Int) < (C.length : Int)) = false := dF (by omega)
  simp only [jJ]
  simp only [e2]
 | succ d ih =>
  intro k f y hk hf hy
  obtain ⟨f, rfl⟩ := pS hf
  have hkl : k < C.length := by omega
  have hxl := (hC.xs k hkl).le
  obtain ⟨y1, a1, a2⟩ := zpF he hm hC k hkl C[k].length 0 600 y (by omega) (by omega) hy
  replace a1 : (ZT 600).L 600 (zO C, C[k].map zQ, y, (C.length : Int), (k : Int), (C[k].length : Int), 0) = _ := a1
  obtain ⟨y', r1, r2⟩ := ih (k + 1) f y1 (by omega) (by omega) a2
  refine ⟨y', ?_, r2⟩
  show (jJ 600).b _ _ ((jJ 600).L f) some = _
  generalize (jJ 600).L f = Lf at r1 |-
  have e2 : decide ((k : Int) < (C.length : Int)) = true := dT (by omega)
  have h0 : 0 <= (k : Int) := by omega
  simp only [jJ]
  simp only [e2, h0, if_true, Int.toNat_natCast, zS C k hkl, rd6, List.length_map, znV, a1, zp (show k < 1000000 by omega)]
  exact r1
theorem zvr {T t : Int} {m e : Nat} {C : List (List RT7)} (he : e <= 500) (hm : m <= 100) (hC : CG T m e C) (hT : T <= t) (h0 : 0 <= t) (ht : t <= 18014398509481984) (hT0 : 0 <= T) : zq3 600 (zO C, t) = some 0 := by
 have hle := hC.le
 obtain ⟨y, h1, h2⟩ := zli he hm hC C.length 0 600 0 (by omega) (by omega) hT0
 replace h1 : (jJ 600).L 600 (zO C, 0, (C.length : Int), 0) = some y := h1
 have c1 : decide (t < 0) = false := dF (by omega)
 have c2 : decide (t > 18014398509481984) = false := dF (by omega)
 have c3 : decide (t < y) = false := dF (by omega)
 simp only [zq3, FSpec.d, zdV, c1, c2, c3, zAt, zd3, zwj, zT, h1]
theorem zBW (x : List (List AV)) (h : x.length <= 100000) : zss 600 x = some x := by
 have hb : ((([] : List (List AV)).length + x.length) * 104 <= zg) = True := by unfold zg; simp; omega
 simp only [zss, FSpec.d, zkD]
 cases x with
 | nil => simp only [hb, if_true]; exact if_pos rfl
 | cons a l => simp only [hb, if_true, List.nil_append]
theorem zaX {e : RT0} (h : zaq e) : zdW 600 e = some e := by
 obtain ⟨P, h1, h2⟩ := h
 have hc : zss 600 e.2.2.2.2.2.2.2.2.2.1 = some e.2.2.2.2.2.2.2.2.2.1 := zBW _ (by
  have : e.2.2.2.2.2.2.2.2.2.1 = P.map zy := h2
  rw [this]; simp; omega)
 simp only [zdW, FSpec.d, zj9, hc]
theorem zu4 {T : Int} {m e : Nat} {C : List (List RT7)} (he : e <= 500) (hm : m <= 100) (hC : CG T m e C) (i : Nat) (hi : i < C.length) (X : List (List AV)) (N : Nat) (cs : List AV) (hcs : cs.map datF = cs) (j M : Nat) : ∀ (d k f : Nat), k + d = C[i].length -> d < f -> (Zq 600).L f ((C[i].take k).map zQ, zO C, C[i].map zQ, (C.length : Int), (i : Int), (C[i].length : Int), (k : Int), X, N, cs, j, M) = some (C[i].map zQ, zO C, (C.length : Int), (i : Int), X, N, cs, j, M) := by
 have h := hC.xs i hi
 have hle := hC.le
 have hxl := h.le
 intro d
 induction d with
 | zero =>
  intro k f hk hf
  obtain ⟨f, rfl⟩ := pS hf
  show (Zq 600).b _ _ ((Zq 600).L f) some = _
  have e2 : decide ((k : Int) < (C[i].length : Int)) = false := dF (by omega)
  have e3 : C[i].take k = C[i] := List.take_of_length_le (by omega)
  simp only [Zq]
  simp only [e2, e3, hcs]
 | succ d ih =>
  intro k f hk hf
  obtain ⟨f, rfl⟩ := pS hf
  have hkl : k < C[i].length := by omega
  have r1 := ih (k + 1) f (by omega) (by omega)
  show (Zq 600).b _ _ ((Zq 600).L f) some = _
  generalize (Zq 600).L f = Lf at r1 |-
  have e2 : decide ((k : Int) < (C[i].length : Int)) = true := dT (by omega)
  have h0 : 0 <= (k : Int) := by omega
  have hc := zaX (h.vs k hkl).ev.pk
  replace hc : zdW 600 (zx C[i][k]) = some (evV C[i][k]) := hc
  have b1 : (((C[i].take k).map zQ).length + 1) * 288 <= zg := by unfold zg; simp; omega
  have e3 : (C[i].take (k + 1)).map zQ = (C[i].take k).map zQ ++ [zQ C[i][k]] := by
   rw [<- List.take_append_getElem hkl, List.map_append]; rfl
  rw [e3] at r1
  simp only [Zq]
  simp only [e2, h0, if_true, Int.toNat_natCast, zuI C[i] k hkl, rd7, hc, hcs, zp (show k < 1000000 by omega), List.length_cons, List.length_nil, Nat.zero_add]
  exact (if_pos b1).trans r1
theorem zpI {T : Int} {m e : Nat} {C : List (List RT7)} (he : e <= 500) (hm : m <= 100) (hC : CG T m e C) (X : List (List AV)) : ∀ (d k f : Nat) (cs : List AV), k + d = C.length -> d < f -> FC (C.take k) 0 cs -> ∃ cs', (ZP 600).L f (zO C, (C.length : Int), (k : Int), X, k, cs, 0, k) = some (X, C.length, cs', 0, C.length) /\ FC C 0 cs' := by
 have hle := hC.le
 intro d
 induction d with
 | zero =>
  intro k f cs hk hf hc
  obtain ⟨f, rfl⟩ := pS hf
  obtain rfl : k = C.length := by omega
  rw [List.take_length] at hc
  refine ⟨cs, ?_, hc⟩
  show (ZP 600).b _ _ ((ZP 600).L f) some = _
  have e2 : decide ((C.length : Int) < (C.length : Int)) = false := dF (by omega)
  simp only [ZP]
  simp only [e2, hc.dF]
 | succ d ih =>
  intro k f cs hk hf hc
  obtain ⟨f, rfl⟩ := pS hf
  have hkl : k < C.length := by omega
  have hxl := (hC.xs k hkl).le
  have hn := hc.snoc C[k]
  have hlk : (C.take k).length = k := by simp; omega
  rw [hlk, List.take_append_getElem] at hn
  obtain ⟨cs', r1, r2⟩ := ih (k + 1) f _ (by omega) (by omega) hn
  have a1 := zu4 he hm hC k hkl X k cs hc.dF 0 k C[k].length 0 600 (by omega) (by omega)
  replace a1 : (Zq 600).L 600 ([], zO C, C[k].map zQ, (C.length : Int), (k : Int), (C[k].length : Int), 0, X, k, cs, 0, k) = _ := a1
  refine ⟨cs', ?_, r2⟩
  show (ZP 600).b _ _ ((ZP 600).L f) some = _
  generalize (ZP 600).L f = Lf at r1 |-
  have e2 : decide ((k : Int) < (C.length : Int)) = true := dT (by omega)
  have h0 : 0 <= (k : Int) := by omega
  have b2 : ((True /\ 0 <= k) /\ k * 1 <= cs.length /\ (k + 1) * 24 <= zg) = True := by rw [hc.1, hlk]; unfold zg; simp; omega
  simp only [ZP]
  simp only [e2, h0, if_true, Int.toNat_natCast, zS C k hkl, rd6, List.length_map, hc.dF, ziB, a1, b2, zp (show k < 1000000 by omega)]
  exact r1
theorem zBu {T : Int} {m e : Nat} {C : List (List RT7)} (he : e <= 500) (hm : m <= 100) (hC : CG T m e C) : ∃ cs, ziA 600 (zO C) = some (C.length, cs, 0, C.length) /\ FC C 0 cs := by
 have hle := hC.le
 obtain ⟨cs, h1, h2⟩ := zpI he hm hC [] C.length 0 600 [] (by omega) (by omega) (by simpa using FC.nil)
 refine ⟨cs, ?_, h2⟩
 replace h1 : (ZP 600).L 600 (zO C, (C.length : Int), 0, [], 0, [], 0, 0) = some ([], C.length, cs, 0, C.length) := h1
 simp only [ziA, FSpec.d, zak, zmx, zT, h1, h2.dF]
end Go.Proofs.YthdgnfcbehcplaaDoor
end
section
namespace Go.Proofs.YthdgnfcbehcplaaDoor
theorem zB5 : ∀ n : Nat, n < 64 -> zvW 600 ([[AV.v (.int .i64 (-1))]], (n : Int)) = some (n, ic (List.replicate n (-1)))
 | 0, _ => by kernel_rfl
 | 1, _ => by kernel_rfl
 | 2, _ => by kernel_rfl
 | 3, _ => by kernel_rfl
 | 4, _ => by kernel_rfl
 | 5, _ => by kernel_rfl
 | 6, _ => by kernel_rfl
 | 7, _ => by kernel_rfl
 | 8, _ => by kernel_rfl
 | 9, _ => by kernel_rfl
 | 10, _ => by kernel_rfl
 | 11, _ => by kernel_rfl
 | 12, _ => by kernel_rfl
 | 13, _ => by kernel_rfl
 | 14, _ => by kernel_rfl
 | 15, _ => by kernel_rfl
 | 16, _ => by kernel_rfl
 | 17, _ => by kernel_rfl
 | 18, _ => by kernel_rfl
 | 19, _ => by kernel_rfl
 | 20, _ => by kernel_rfl
 | 21, _ => by kernel_rfl
 | 22, _ => by kernel_rfl
 | 23, _ => by kernel_rfl
 | 24, _ => by kernel_rfl
 | 25, _ => by kernel_rfl
 | 26, _ => by kernel_rfl
 | 27, _ => by kernel_rfl
 | 28, _ => by kernel_rfl
 | 29, _ => by kernel_rfl
 | 30, _ => by kernel_rfl
 | 31, _ => by kernel_rfl
 | 32, _ => by kernel_rfl
 | 33, _ => by kernel_rfl
 | 34, _ => by kernel_rfl
 | 35, _ => by kernel_rfl
 | 36, _ => by kernel_rfl
 | 37, _ => by kernel_rfl
 | 38, _ => by kernel_rfl
 | 39, _ => by kernel_rfl
 | 40, _ => by kernel_rfl
 | 41, _ => by kernel_rfl
 | 42, _ => by kernel_rfl
 | 43, _ => by kernel_rfl
 | 44, _ => by kernel_rfl
 | 45, _ => by kernel_rfl
 | 46, _ => by kernel_rfl
 | 47, _ => by kernel_rfl
 | 48, _ => by kernel_rfl
 | 49, _ => by kernel_rfl
 | 50, _ => by kernel_rfl
 | 51, _ => by kernel_rfl
 | 52, _ => by kernel_rfl
 | 53, _ => by kernel_rfl
 | 54, _ => by kernel_rfl
 | 55, _ => by kernel_rfl
 | 56, _ => by kernel_rfl
 | 57, _ => by kernel_rfl
 | 58, _ => by kernel_rfl
 | 59, _ => by kernel_rfl
 | 60, _ => by kernel_rfl
 | 61, _ => by kernel_rfl
 | 62, _ => by kernel_rfl
 | 63, _ => by kernel_rfl
 | n + 64, h => absurd h (by omega)
def bc (L : List Bool) : List AV := L.map λ x => AV.v (.bool x)
theorem zgG (L : List Bool) : (bc L).length = L.length := by simp [bc]
theorem J0 (L : List Bool) (k : Nat) (h : k < L.length) : (bc L)[k]? = some (AV.v (.bool L[k])) := by simp [bc, h]
theorem zH (L : List Bool) : (bc L).map dat0 = bc L := by simp only [bc, List.map_map]; rfl
theorem zgH (L : List Bool) (k : Nat) (y : Bool) : splice (bc L) k [AV.v (.bool y)] = bc (L.set k y) := by
 show (bc L).set k _ = _
 simp [bc, List.map_set]
theorem zo3 (n : Nat) : List.replicate n (AV.v (.bool false)) = bc (List.replicate n false) := by simp [bc]
theorem zyC (L : List Int) : zK ((ic L).take (L.length * 1)) 1 L.length = zt L := by
 rw [Nat.mul_one, List.take_of_length_le (by rw [zeO]; exact Nat.le_refl _)]
 induction L with
 | nil => rfl
 | cons x L ih =>
  show _ :: _ = _ :: _
  congr 1
def Hit (M : RT0 -> RT0 -> Prop) (A : List RT0) (tk : List Bool) (a : RT0) (k j : Nat) : Prop := ∃ (h : j < A.length) (h' : j < tk.length), k <= j /\ tk[j] = false /\ M a A[j] /\ ∀ i (hi : i < A.length) (hi' : i < tk.length), k <= i -> i < j -> tk[i] = false -> ¬ M a A[i]
def zBf (M : RT0 -> RT0 -> Prop) (A : List RT0) (tk : List Bool) (a : RT0) (k : Nat) : Prop := ∀ i (hi : i < A.length) (hi' : i < tk.length), k <= i -> tk[i] = false -> ¬ M a A[i]
def laE (x : List RT7) : Option RT0 := x.getLast?.map evV
inductive Pass (M : RT0 -> RT0 -> Prop) (C : List (List RT7)) (A : List RT0) : Nat -> List Int -> List Bool -> List Int -> List Bool -> Prop
 | done {k : Nat} {o : List Int} {t : List Bool} : C.length <= k -> Pass M C A k o t o t
 | skip {k : Nat} {o o' : List Int} {t t' : List Bool} : k < C.length -> (∀ h : k < o.length, 0 <= o[k]) -> Pass M C A (k + 1) o t o' t' -> Pass M C A k o t o' t'
 | hit {k j : Nat} {o o' : List Int} {t t' : List Bool} {a : RT0} (h : k < C.length) : (∀ h : k < o.length, o[k] < 0) -> laE C[k] = some a -> Hit M A t a 0 j -> Pass M C A (k + 1) (o.set k (j : Int)) (t.set j true) o' t' -> Pass M C A k o t o' t'
 | miss {k : Nat} {o o' : List Int} {t t' : List Bool} {a : RT0} (h : k < C.length) : (∀ h : k < o.length, o[k] < 0) -> laE C[k] = some a -> zBf M A t a 0 -> Pass M C A (k + 1) o t o' t' -> Pass M C A k o t o' t'
theorem zjf {x : List RT7} (h : x ≠ []) : laE x = some (evV (x.getLast h)) := by
 simp [laE, List.getLast?_eq_some_getLast h]
def SameN (a e : RT0) : Prop := nmE a = nmE e
def zfq (a e : RT0) : Prop := ∃ P Q : List RT1, pkE a = P.map zy /\ pkE e = Q.map zy /\ Com P Q
theorem zEl {a e : RT0} (ha : zaq a) (he : zaq e) : ∃ b, zxC 600 (a, e) = some b /\ (b = true ↔ SameN a e) := by
 refine ⟨eqP (nmE a) (nmE e), rfl, λ h => zwS h, λ h => ?_⟩
 unfold SameN at h
 rw [h]; exact JN _
theorem zEm {a e : RT0} (ha : zaq a) (he : zaq e) : ∃ b, zm2 600 (a, e) = some b /\ (b = true ↔ zfq a e) := by
 obtain ⟨P, hP1, hP⟩ := ha
 obtain ⟨Q, hQ1, hQ⟩ := he
 obtain ⟨b, h1, h2⟩ := zpY P Q a e hP hQ (by omega) (by omega)
 refine ⟨b, h1, h2.trans ⟨λ h => ⟨P, Q, hP, hQ, h⟩, λ ⟨P', Q', h3, h4, h5⟩ => ?_⟩⟩
 rw [hP] at h3
 rw [hQ] at h4
 rw [zcD h3, zcD h4]; exact h5
theorem zBU {T : Int} {m e : Nat} {C : List (List RT7)} (he : e <= 500) (hm : m <= 100) (hC : CG T m e C) (A : List RT0) (hA : A.length <= 100) (hpk : ∀ a ∈ A, zaq a) (i : Nat) (hi : i < C.length) (L : List Int) (hL : L.length = C.length) (t : List Bool) (ht : t.length = A.length) : ∀ (d k f : Nat), k + d = A.length -> d < f ->
  ∃ L' t', (Za 600).L f (zO C, A.map zB, (i : Int), (C.length : Int), (i : Int), (A.length : Int), (k : Int), zO C, C.length, A.map zB, A.length, ic L, bc t, C[i].map zQ) = some (zO C, (C.length : Int), (i : Int), zO C, C.length, A.map zB, A.length, ic L', bc t') /\ ((∃ j, Hit SameN A t (evV (C[i].getLast (hC.xs i hi).ne)) k j /\ L' = L.set i (j : Int) /\ t' = t.set j true) \/ (zBf SameN A t (evV (C[i].getLast (hC.xs i hi).ne)) k /\ L' = L /\ t' = t)) := by
 have hle := hC.le
 have hx := hC.xs i hi
 have hxl := hx.le
 have hla := zpv C[i] hx.ne (by omega)
 intro d
 induction d with
 | zero =>
  intro k f hk hf
  obtain ⟨f, rfl⟩ := pS hf
  refine ⟨L, t, ?_, .inr ⟨λ j h h' hk' => by omega, rfl, rfl⟩⟩
  show (Za 600).b _ _ ((Za 600).L f) some = _
  have e2 : decide ((k : Int) < (A.length : Int)) = false := dF (by omega)
  simp only [Za]
  simp only [e2, zF, zH]
 | succ d ih =>
  intro k f hk hf
  obtain ⟨f, rfl⟩ := pS hf
  have hkl : k < A.length := by omega
  have hkt : k < t.length := by omega
  have e2 : decide ((k : Int) < (A.length : Int)) = true := dT (by omega)
  have h0 : 0 <= (k : Int) := by omega
  have h1 : (k : Int) < (A.length : Int) := by omega
  have hi0 : 0 <= (i : Int) := by omega
  have hi1 : (i : Int) < (C.length : Int) := by omega
  have n1 := zp (show k < 1000000 by omega)
  obtain ⟨L', t', r1, r2⟩ := ih (k + 1) f (by omega) (by omega)
  have hnext : t[k] = true \/ ¬ SameN (evV (C[i].getLast hx.ne)) A[k] -> ((∃ j, Hit SameN A t (evV (C[i].getLast hx.ne)) k j /\ L' = L.set i (j : Int) /\ t' = t.set j true) \/ (zBf SameN A t (evV (C[i].getLast hx.ne)) k /\ L' = L /\ t' = t)) := λ hc => by
   rcases r2 with ⟨j, ⟨q1, q2, q3, q4, q5, q6⟩, q7⟩ | ⟨q1, q2⟩
   ·refine .inl ⟨j, ⟨q1, q2, by omega, q4, q5, λ z hz hz' h1 h2 h3 => ?_⟩, q7⟩
    by_cases e : k = z
    ·subst e
     rcases hc with hc | hc
     ·rw [h3] at hc; cases hc
     ·exact hc
    ·exact q6 z hz hz' (by omega) h2 h3
   ·refine .inr ⟨λ z hz hz' h1 h3 => ?_, q2⟩
    by_cases e : k = z
    ·subst e
     rcases hc with hc | hc
     ·rw [h3] at hc; cases hc
     ·exact hc
    ·exact q1 z hz hz' (by omega) h3
  have hM : ∃ b, zxC 600 (zx (C[i].getLast hx.ne), A[k]) = some b /\ (b = true ↔ SameN (evV (C[i].getLast hx.ne)) A[k]) := zEl hx.last.ev.pk (hpk _ (List.getElem_mem _))
  obtain ⟨b, m1, m2⟩ := hM
  cases hb : t[k] with
  | true =>
   refine ⟨L', t', ?_, hnext (.inl hb)⟩
   show (Za 600).b _ _ ((Za 600).L f) some = _
   generalize (Za 600).L f = Lf at r1 |-
   simp only [Za]
   simp only [e2, h0, h1, decide_true, and_self, if_true, Int.toNat_natCast, zcm A k hkl, ZD, Nat.zero_add, Nat.mul_one, J0 t k hkt, hb, Bool.not_true, zF, zH, n1]
   exact r1
  | false =>
   cases b with
   | false =>
    refine ⟨L', t', ?_, hnext (.inr λ h => by have := m2.2 h; cases this)⟩
    show (Za 600).b _ _ ((Za 600).L f) some = _
    generalize (Za 600).L f = Lf at r1 |-
    simp only [Za]
    simp only [e2, h0, h1, decide_true, and_self, if_true, Int.toNat_natCast, zcm A k hkl, ZD, Nat.zero_add, Nat.mul_one, J0 t k hkt, hb, Bool.not_false, hla, m1, zF, zH, n1]
    exact r1
   | true =>
    refine ⟨L.set i (k : Int), t.set k true, ?_, .inl ⟨k, ⟨hkl, hkt, Nat.le_refl _, hb, m2.1 rfl, λ z _ _ h1 h2 => by omega⟩, rfl, rfl⟩⟩
    show (Za 600).b _ _ ((Za 600).L f) some = _
    have b1 : i + 1 <= (ic L).length := by rw [zeO]; omega
    have b2 : k + 1 <= (bc t).length := by rw [zgG]; omega
    simp only [Za]
    simp only [e2, h0, h1, hi0, hi1, decide_true, and_self, if_true, Int.toNat_natCast, zcm A k hkl, ZD, Nat.zero_add, Nat.mul_one, J0 t k hkt, hb, Bool.not_false, hla, m1, b1, b2, zpp, zgH, zF, zH]
theorem zy0 {T : Int} {m e : Nat} {C : List (List RT7)} (he : e <= 500) (hm : m <= 100) (hC : CG T m e C) (A : List RT0) (hA : A.length <= 100) (hpk : ∀ a ∈ A, zaq a) : ∀ (d k f : Nat) (L : List Int) (t : List Bool), k + d = C.length -> d < f -> L.length = C.length -> t.length = A.length ->
  ∃ L' t', (ZM 600).L f (zO C, (C.length : Int), (k : Int), zO C, C.length, A.map zB, A.length, ic L, bc t) = some (zO C, C.length, A.map zB, A.length, ic L', bc t') /\ L'.length = C.length /\ t'.length = A.length /\ Pass SameN C A k L t L' t' := by
 have hle := hC.le
 intro d
 induction d with
 | zero =>
  intro k f L t hk hf hL ht
  obtain ⟨f, rfl⟩ := pS hf
  refine ⟨L, t, ?_, hL, ht, .done (by omega)⟩
  show (ZM 600).b _ _ ((ZM 600).L f) some = _
  have e2 : decide ((k : Int) < (C.length : Int)) = false := dF (by omega)
  simp only [ZM]
  simp only [e2, zF, zH]
 | succ d ih =>
  intro k f L t hk hf hL ht
  obtain ⟨f, rfl⟩ := pS hf
  have hkl : k < C.length := by omega
  have hkL : k < L.length := by omega
  have hx := hC.xs k hkl
  have e2 : decide ((k : Int) < (C.length : Int)) = true := dT (by omega)
  have h0 : 0 <= (k : Int) := by omega
  have h1 : (k : Int) < (C.length : Int) := by omega
  have n1 := zp (show k < 1000000 by omega)
  by_cases hc : 0 <= L[k]
  ·obtain ⟨L', t', r1, r2, r3, r4⟩ := ih (k + 1) f L t (by omega) (by omega) hL ht
   refine ⟨L', t', ?_, r2, r3, .skip hkl (λ _ => hc) r4⟩
   show (ZM 600).b _ _ ((ZM 600).L f) some = _
   generalize (ZM 600).L f = Lf at r1 |-
   have e3 : decide (L[k] >= 0) = true := dT (by omega)
   simp only [ZM]
   simp only [e2, h0, h1, decide_true, and_self, if_true, Int.toNat_natCast, zS C k hkl, rd6, Nat.zero_add, Nat.mul_one, JO L k hkL, e3, zF, zH, n1]
   exact r1
  ·have e3 : decide (L[k] >= 0) = false := dF (by omega)
   have hp := hx.pos
   have e4 : ((C[k].length : Int) == 0) = false := by rw [beq_eq_false_iff_ne]; omega
   obtain ⟨L1, t1, a1, a2⟩ := zBU he hm hC A hA hpk k hkl L hL t ht A.length 0 600 (by omega) (by omega)
   replace a1 : (Za 600).L 600 (zO C, A.map zB, (k : Int), (C.length : Int), (k : Int), (A.length : Int), 0, zO C, C.length, A.map zB, A.length, ic L, bc t, C[k].map zQ) = _ := a1
   have hlt : L1.length = C.length /\ t1.length = A.length := by
    rcases a2 with ⟨j, _, rfl, rfl⟩ | ⟨_, rfl, rfl⟩
    ·simp [hL, ht]
    ·exact ⟨hL, ht⟩
   obtain ⟨L', t', r1, r2, r3, r4⟩ := ih (k + 1) f L1 t1 (by omega) (by omega) hlt.1 hlt.2
   refine ⟨L', t', ?_, r2, r3, ?_⟩
   ·show (ZM 600).b _ _ ((ZM 600).L f) some = _
    generalize (ZM 600).L f = Lf at r1 |-
    simp only [ZM]
    simp only [e2, h0, h1, decide_true, and_self, if_true, Int.toNat_natCast, zS C k hkl, rd6, Nat.zero_add, Nat.mul_one, JO L k hkL, e3, zF, zH, n1, List.length_map, e4, zmQ, a1]
    exact r1
   ·rcases a2 with ⟨j, g, rfl, rfl⟩ | ⟨g, rfl, rfl⟩
    ·exact .hit hkl (λ _ => Int.not_le.1 hc) (zjf hx.ne) g r4
    ·exact .miss hkl (λ _ => Int.not_le.1 hc) (zjf hx.ne) g r4
theorem zBV {T : Int} {m e : Nat} {C : List (List RT7)} (he : e <= 500) (hm : m <= 100) (hC : CG T m e C) (A : List RT0) (hA : A.length <= 100) (hpk : ∀ a ∈ A, zaq a) (i : Nat) (hi : i < C.length) (L : List Int) (hL : L.length = C.length) (t : List Bool) (ht : t.length = A.length) : ∀ (d k f : Nat), k + d = A.length -> d < f ->
  ∃ L' t', (zR 600).L f (zO C, A.map zB, (i : Int), (C.length : Int), (i : Int), (A.length : Int), (k : Int), zO C, C.length, A.map zB, A.length, ic L, bc t, C[i].map zQ) = some (zO C, (C.length : Int), (i : Int), zO C, C.length, A.map zB, A.length, ic L', bc t') /\ ((∃ j, Hit zfq A t (evV (C[i].getLast (hC.xs i hi).ne)) k j /\ L' = L.set i (j : Int) /\ t' = t.set j true) \/ (zBf zfq A t (evV (C[i].getLast (hC.xs i hi).ne)) k /\ L' = L /\ t' = t)) := by
 have hle := hC.le
 have hx := hC.xs i hi
 have hxl := hx.le
 have hla := zpv C[i] hx.ne (by omega)
 intro d
 induction d with
 | zero =>
  intro k f hk hf
  obtain ⟨f, rfl⟩ := pS hf
  refine ⟨L, t, ?_, .inr ⟨λ j h h' hk' => by omega, rfl, rfl⟩⟩
  show (zR 600).b _ _ ((zR 600).L f) some = _
  have e2 : decide ((k : Int) < (A.length : Int)) = false := dF (by omega)
  simp only [zR]
  simp only [e2, zF, zH]
 | succ d ih =>
  intro k f hk hf
  obtain ⟨f, rfl⟩ := pS hf
  have hkl : k < A.length := by omega
  have hkt : k < t.length := by omega
  have e2 : decide ((k : Int) < (A.length : Int)) = true := dT (by omega)
  have h0 : 0 <= (k : Int) := by omega
  have h1 : (k : Int) < (A.length : Int) := by omega
  have hi0 : 0 <= (i : Int) := by omega
  have hi1 : (i : Int) < (C.length : Int) := by omega
  have n1 := zp (show k < 1000000 by omega)
  obtain ⟨L', t', r1, r2⟩ := ih (k + 1) f (by omega) (by omega)
  have hnext : t[k] = true \/ ¬ zfq (evV (C[i].getLast hx.ne)) A[k] -> ((∃ j, Hit zfq A t (evV (C[i].getLast hx.ne)) k j /\ L' = L.set i (j : Int) /\ t' = t.set j true) \/ (zBf zfq A t (evV (C[i].getLast hx.ne)) k /\ L' = L /\ t' = t)) := λ hc => by
   rcases r2 with ⟨j, ⟨q1, q2, q3, q4, q5, q6⟩, q7⟩ | ⟨q1, q2⟩
   ·refine .inl ⟨j, ⟨q1, q2, by omega, q4, q5, λ z hz hz' h1 h2 h3 => ?_⟩, q7⟩
    by_cases e : k = z
    ·subst e
     rcases hc with hc | hc
     ·rw [h3] at hc; cases hc
     ·exact hc
    ·exact q6 z hz hz' (by omega) h2 h3
   ·refine .inr ⟨λ z hz hz' h1 h3 => ?_, q2⟩
    by_cases e : k = z
    ·subst e
     rcases hc with hc | hc
     ·rw [h3] at hc; cases hc
     ·exact hc
    ·exact q1 z hz hz' (by omega) h3
  have hM : ∃ b, zm2 600 (zx (C[i].getLast hx.ne), A[k]) = some b /\ (b = true ↔ zfq (evV (C[i].getLast hx.ne)) A[k]) := zEm hx.last.ev.pk (hpk _ (List.getElem_mem _))
  obtain ⟨b, m1, m2⟩ := hM
  cases hb : t[k] with
  | true =>
   refine ⟨L', t', ?_, hnext (.inl hb)⟩
   show (zR 600).b _ _ ((zR 600).L f) some = _
   generalize (zR 600).L f = Lf at r1 |-
   simp only [zR]
   simp only [e2, h0, h1, decide_true, and_self, if_true, Int.toNat_natCast, zcm A k hkl, ZD, Nat.zero_add, Nat.mul_one, J0 t k hkt, hb, Bool.not_true, zF, zH, n1]
   exact r1
  | false =>
   cases b with
   | false =>
    refine ⟨L', t', ?_, hnext (.inr λ h => by have := m2.2 h; cases this)⟩
    show (zR 600).b _ _ ((zR 600).L f) some = _
    generalize (zR 600).L f = Lf at r1 |-
    simp only [zR]
    simp only [e2, h0, h1, decide_true, and_self, if_true, Int.toNat_natCast, zcm A k hkl, ZD, Nat.zero_add, Nat.mul_one, J0 t k hkt, hb, Bool.not_false, hla, m1, zF, zH, n1]
    exact r1
   | true =>
    refine ⟨L.set i (k : Int), t.set k true, ?_, .inl ⟨k, ⟨hkl, hkt, Nat.le_refl _, hb, m2.1 rfl, λ z _ _ h1 h2 => by omega⟩, rfl, rfl⟩⟩
    show (zR 600).b _ _ ((zR 600).L f) some = _
    have b1 : i + 1 <= (ic L).length := by rw [zeO]; omega
    have b2 : k + 1 <= (bc t).length := by rw [zgG]; omega
    simp only [zR]
    simp only [e2, h0, h1, hi0, hi1, decide_true, and_self, if_true, Int.toNat_natCast, zcm A k hkl, ZD, Nat.zero_add, Nat.mul_one, J0 t k hkt, hb, Bool.not_false, hla, m1, b1, b2, zpp, zgH, zF, zH]
theorem zy1 {T : Int} {m e : Nat} {C : List (List RT7)} (he : e <= 500) (hm : m <= 100) (hC : CG T m e C) (A : List RT0) (hA : A.length <= 100) (hpk : ∀ a ∈ A, zaq a) : ∀ (d k f : Nat) (L : List Int) (t : List Bool), k + d = C.length -> d < f -> L.length = C.length -> t.length = A.length ->
  ∃ L' t', (Zj 600).L f (zO C, (C.length : Int), (k : Int), zO C, C.length, A.map zB, A.length, ic L, bc t) = some (zO C, C.length, A.map zB, A.length, ic L', bc t') /\ L'.length = C.length /\ t'.length = A.length /\ Pass zfq C A k L t L' t' := by
 have hle := hC.le
 intro d
 induction d with
 | zero =>
  intro k f L t hk hf hL ht
  obtain ⟨f, rfl⟩ := pS hf
  refine ⟨L, t, ?_, hL, ht, .done (by omega)⟩
  show (Zj 600).b _ _ ((Zj 600).L f) some = _
  have e2 : decide ((k : Int) < (C.length : Int)) = false := dF (by omega)
  simp only [Zj]
  simp only [e2, zF, zH]
 | succ d ih =>
  intro k f L t hk hf hL ht
  obtain ⟨f, rfl⟩ := pS hf
  have hkl : k < C.length := by omega
  have hkL : k < L.length := by omega
  have hx := hC.xs k hkl
  have e2 : decide ((k : Int) < (C.length : Int)) = true := dT (by omega)
  have h0 : 0 <= (k : Int) := by omega
  have h1 : (k : Int) < (C.length : Int) := by omega
  have n1 := zp (show k < 1000000 by omega)
  by_cases hc : 0 <= L[k]
  ·obtain ⟨L', t', r1, r2, r3, r4⟩ := ih (k + 1) f L t (by omega) (by omega) hL ht
   refine ⟨L', t', ?_, r2, r3, .skip hkl (λ _ => hc) r4⟩
   show (Zj 600).b _ _ ((Zj 600).L f) some = _
   generalize (Zj 600).L f = Lf at r1 |-
   have e3 : decide (L[k] >= 0) = true := dT (by omega)
   simp only [Zj]
   simp only [e2, h0, h1, decide_true, and_self, if_true, Int.toNat_natCast, zS C k hkl, rd6, Nat.zero_add, Nat.mul_one, JO L k hkL, e3, zF, zH, n1]
   exact r1
  ·have e3 : decide (L[k] >= 0) = false := dF (by omega)
   have hp := hx.pos
   have e4 : ((C[k].length : Int) == 0) = false := by rw [beq_eq_false_iff_ne]; omega
   obtain ⟨L1, t1, a1, a2⟩ := zBV he hm hC A hA hpk k hkl L hL t ht A.length 0 600 (by omega) (by omega)
   replace a1 : (zR 600).L 600 (zO C, A.map zB, (k : Int), (C.length : Int), (k : Int), (A.length : Int), 0, zO C, C.length, A.map zB, A.length, ic L, bc t, C[k].map zQ) = _ := a1
   have hlt : L1.length = C.length /\ t1.length = A.length := by
    rcases a2 with ⟨j, _, rfl, rfl⟩ | ⟨_, rfl, rfl⟩
    ·simp [hL, ht]
    ·exact ⟨hL, ht⟩
   obtain ⟨L', t', r1, r2, r3, r4⟩ := ih (k + 1) f L1 t1 (by omega) (by omega) hlt.1 hlt.2
   refine ⟨L', t', ?_, r2, r3, ?_⟩
   ·show (Zj 600).b _ _ ((Zj 600).L f) some = _
    generalize (Zj 600).L f = Lf at r1 |-
    simp only [Zj]
    simp only [e2, h0, h1, decide_true, and_self, if_true, Int.toNat_natCast, zS C k hkl, rd6, Nat.zero_add, Nat.mul_one, JO L k hkL, e3, zF, zH, n1, List.length_map, e4, ziD, a1]
    exact r1
   ·rcases a2 with ⟨j, g, rfl, rfl⟩ | ⟨g, rfl, rfl⟩
    ·exact .hit hkl (λ _ => Int.not_le.1 hc) (zjf hx.ne) g r4
    ·exact .miss hkl (λ _ => Int.not_le.1 hc) (zjf hx.ne) g r4
def FolP (C : List (List RT7)) (A : List RT0) (L : List Int) : Prop := ∃ L1 t1 t2, Pass SameN C A 0 (List.replicate C.length (-1)) (List.replicate A.length false) L1 t1 /\ Pass zfq C A 0 L1 t1 L t2
theorem zuF {T : Int} {m e : Nat} {C : List (List RT7)} (he : e <= 63) (hm : m <= 100) (hC : CG T m e C) (A : List RT0) (hA : A.length <= 100) (hpk : ∀ a ∈ A, zaq a) : ∃ L : List Int, zl3 600 (zO C, A.map zB) = some (zt L) /\ L.length = C.length /\ FolP C A L := by
 have hle := hC.le
 have hr := zB5 C.length (by omega)
 obtain ⟨L1, t1, a1, a2, a3, a4⟩ := zy0 (by omega) hm hC A hA hpk C.length 0 600 (List.replicate C.length (-1)) (List.replicate A.length false) (by omega) (by omega) (by simp) (by simp)
 replace a1 : (ZM 600).L 600 (zO C, (C.length : Int), 0, zO C, C.length, A.map zB, A.length, ic (List.replicate C.length (-1)), bc (List.replicate A.length false)) = _ := a1
 obtain ⟨L2, t2, b1, b2, b3, b4⟩ := zy1 (by omega) hm hC A hA hpk C.length 0 600 L1 t1 (by omega) (by omega) a2 a3
 replace b1 : (Zj 600).L 600 (zO C, (C.length : Int), 0, zO C, C.length, A.map zB, A.length, ic L1, bc t1) = _ := b1
 have c1 : (0 <= (A.length : Int) /\ (A.length : Int) <= (A.length : Int) /\ (A.length : Int).toNat * 1 <= zg) = True := by unfold zg; simp; omega
 have c2 : C.length * 1 <= (ic L2).length := by rw [zeO]; omega
 have c3 := zyC L2
 rw [b2] at c3
 refine ⟨L2, ?_, b2, L1, t1, t2, a4, b4⟩
 have d1 : zxz 600 (zO C, C.length, A.map zB, A.length, ic (List.replicate C.length (-1)), bc (List.replicate A.length false)) = some (zO C, C.length, A.map zB, A.length, ic L1, bc t1) := by
  simp only [zxz, FSpec.d, zdY, zvY, zT, zF, zH, a1]
 have d2 : zmU 600 (zO C, C.length, A.map zB, A.length, ic L1, bc t1) = some (zO C, C.length, A.map zB, A.length, ic L2, bc t2) := by
  simp only [zmU, FSpec.d, zal, zmV, zT, zF, zH, b1]
 simp only [zl3, FSpec.d, zdR, zT, hr, List.length_map]
 rw [if_pos (of_eq_true c1)]
 simp only [Int.toNat_natCast, zo3, zF, zH, d1, d2]
 exact (if_pos c2).trans (by rw [c3])
end Go.Proofs.YthdgnfcbehcplaaDoor
end
section
namespace Go.Proofs.YthdgnfcbehcplaaDoor
noncomputable def zcq (A : List RT0) (t : Int) (x : List RT7) (k : Int) : List RT7 := match x.getLast? with
 | some u => match Jh A t u k with | some v => x ++ [v] | none => x
 | none => x
noncomputable def zcl (A : List RT0) (t : Int) : Nat -> List (List RT7) -> List Int -> List Int
 | k, x :: C, l :: L => match x.getLast? with
  | some u => match Jh A t u l with | some _ => (k : Int) :: zcl A t (k + 1) C L | none => zcl A t (k + 1) C L
  | none => zcl A t (k + 1) C L
 | _, _, _ => []
def tkF : List Bool -> List Int -> List Bool
 | t, [] => t
 | t, x :: L => tkF (if 0 <= x then t.set x.toNat true else t) L
theorem zio : ∀ (L : List Int) (t : List Bool), (tkF t L).length = t.length
 | [], _ => rfl
 | x :: L, t => by
  show (tkF _ L).length = _
  rw [zio L]
  split <;> simp
def news (t : Int) : List RT0 -> List Bool -> List (List RT7)
 | a :: A, b :: T => if b = true then news t A T else [zaG t a] :: news t A T
 | _, _ => []
theorem zb9 {x : List RT7} (h : x ≠ []) : x.getLast? = some (x.getLast h) := List.getLast?_eq_some_getLast h
theorem zh9 {A : List RT0} {t : Int} {u : RT7} {z : Nat} (ho : ZA (kdV u) = true) (hz : z < A.length) (h : jN (kdV u) = true /\ evV u = A[z]) : Jh A t u (z : Int) = none := by
 unfold Jh
 rw [if_pos ho, dif_pos ⟨by omega, by omega⟩]
 simp only [Int.toNat_natCast]
 rw [if_pos h]
theorem zfP {A : List RT0} {t : Int} {u : RT7} {z : Nat} (ho : ZA (kdV u) = true) (hz : z < A.length) (h : ¬ (jN (kdV u) = true /\ evV u = A[z])) : Jh A t u (z : Int) = some (zaG t A[z]) := by
 unfold Jh
 rw [if_pos ho, dif_pos ⟨by omega, by omega⟩]
 simp only [Int.toNat_natCast]
 rw [if_neg h]
theorem pp35 {A : List RT0} (hA : ∀ a ∈ A, EvG a) {t : Int} {u : RT7} {n0 i0 : Nat} {T : Int} (hu : VG T n0 i0 u) (ho : ZA (kdV u) = true) (z : Nat) (hz : z < A.length) (ch fl : List (List AV)) (n off N : Nat) (i lL : Int) (X : List (List AV)) (cs ci : List AV) (hcs : cs.map datF = cs) (hci : ci.map dat0 = ci) (jM : Nat × Nat) :
  (zeY 600 (ch, A.map zB, fl, t, n, i, (z : Int), off, lL, i, X, N, u, cs, ci, jM) = some (.inl (ch, A.map zB, fl, t, n, i, (z : Int), off, lL, i, X, N, cs, ci, jM)) /\ Jh A t u (z : Int) = none) \/ (zeY 600 (ch, A.map zB, fl, t, n, i, (z : Int), off, lL, i, X, N, u, cs, ci, jM) = some (.inr (ch, A.map zB, fl, t, n, i, (z : Int), off, lL, i, X, N, cs, ci, jM)) /\ Jh A t u (z : Int) = some (zaG t A[z])) := by
 have hu' : ∀ y, (jv 600).b (ch, A.map zB, fl, t, n, i, (z : Int), off, lL, i, X, N, u, cs, ci, jM) _ ((jv 600).L 599) some = y -> zeY 600 (ch, A.map zB, fl, t, n, i, (z : Int), off, lL, i, X, N, u, cs, ci, jM) = y := λ y h => h
 have hts := zvo hu.kd
 have q7 : 0 <= u.1 /\ u.1 < 7 := ⟨hu.kd.lt.1, hu.kd.lt.2.1⟩
 have hz0 : 0 <= (z : Int) := by omega
 simp only [kdV] at hts
 cases hsh : jN u.1 with
 | false =>
  rw [hsh] at hts
  refine .inr ⟨hu' _ ?_, zfP ho hz (λ h => by rw [kdV, hsh] at h; cases h.1)⟩
  simp only [jv]
  simp only [q7, and_self, if_true, hts, hcs, hci]
 | true =>
  rw [hsh] at hts
  obtain ⟨b, w1, w2⟩ := zi5 (evV u) A[z] hu.ev.pk (hA _ (List.getElem_mem _)).pk
  replace w1 : zj7 600 (zx u, A[z]) = some b := w1
  cases b with
  | true =>
   refine .inl ⟨hu' _ ?_, zh9 ho hz ⟨hsh, w2.1 rfl⟩⟩
   simp only [jv]
   simp only [q7, and_self, if_true, hts, hcs, hci, hz0, Int.toNat_natCast, zcm A z hz, ZD, w1]
  | false =>
   refine .inr ⟨hu' _ ?_, zfP ho hz (λ h => by have := w2.2 h.2; cases this)⟩
   simp only [jv]
   simp only [q7, and_self, if_true, hts, hcs, hci, hz0, Int.toNat_natCast, zcm A z hz, ZD, w1]
theorem pp33 {A : List RT0} (hA : ∀ a ∈ A, EvG a) {t : Int} {u : RT7} {n0 i0 : Nat} {T : Int} (hu : VG T n0 i0 u) (ho : ZA (kdV u) = true) {k : Int} (hk : -1 <= k /\ k < A.length) (ch fl : List (List AV)) (n : Nat) (i : Nat) (lL : Int) (X : List (List AV)) {D : List (List RT7)} {j : Nat} {cs : List AV} (hF : FC D j cs) (hi : i < D.length) (hj : j <= i) (hl : D[i].length <= 1000) (ci : List AV) (hci : ci.map dat0 = ci) :
  (Jh A t u k = none /\ zeX 600 (ch, A.map zB, fl, t, n, (i : Int), k, i, lL, (i : Int), decide (k >= 0), X, D.length, u, cs, ci, j, D.length) = some (.inl (ch, A.map zB, fl, t, n, (i : Int), i, lL, (i : Int), X, D.length, cs, ci, j, D.length))) \/ (∃ v cs', Jh A t u k = some v /\ FC (D.set i (D[i] ++ [v])) (i + 1) cs' /\ zeX 600 (ch, A.map zB, fl, t, n, (i : Int), k, i, lL, (i : Int), decide (k >= 0), X, D.length, u, cs, ci, j, D.length) = some (.inr (ch, A.map zB, fl, t, n, (i : Int), i, lL, (i : Int), X, D.length, cs', ci, i + 1, D.length))) := by
 have hu' : ∀ y, (ji 600).b (ch, A.map zB, fl, t, n, (i : Int), k, i, lL, (i : Int), decide (k >= 0), X, D.length, u, cs, ci, j, D.length) _ ((ji 600).L 599) some = y -> zeX 600 (ch, A.map zB, fl, t, n, (i : Int), k, i, lL, (i : Int), decide (k >= 0), X, D.length, u, cs, ci, j, D.length) = y := λ y h => h
 obtain ⟨tk, q3, _, q4⟩ := hF.2 i hi
 rw [q4 hj] at q3
 have b2 : i + 1 <= cs.length := by rw [hF.1]; omega
 by_cases hk0 : 0 <= k
 ·obtain ⟨z, rfl⟩ : ∃ z : Nat, k = (z : Int) := ⟨k.toNat, by omega⟩
  have hz : z < A.length := by omega
  have e1 : decide ((z : Int) >= 0) = true := dT (by omega)
  rcases pp35 hA hu ho (t := t) z hz ch fl n i D.length (i : Int) lL X cs ci hF.dF hci (j, D.length) with ⟨p1, p2⟩ | ⟨p1, p2⟩
  ·refine .inl ⟨p2, hu' _ ?_⟩
   simp only [ji]
   simp only [e1, hF.dF, hci, p1]
  ·have hc := zaX (hA A[z] (List.getElem_mem _)).pk
   have b1 : ((D[i].map zQ).length + 1) * 288 <= zg := by unfold zg; simp; omega
   refine .inr ⟨zaG t A[z], _, p2, (hF.to hj).set hi (D[i] ++ [zaG t A[z]]) (q := 7040) (by unfold TOB; omega), hu' _ ?_⟩
   simp only [ji]
   simp only [e1, hF.dF, hci, p1, Nat.add_zero, q3, hj, hi, and_self, if_true, hk0, Int.toNat_natCast, zcm A z hz, ZD, hc, b2, List.length_cons, List.length_nil, Nat.zero_add]
   refine (if_pos b1).trans ?_
   rw [List.map_append]
   rfl
 ·have e1 : decide (k >= 0) = false := dF (by omega)
  by_cases h2 : kdV u = 2
  ·have e2 : (u.1 == 2) = true := by simpa using h2
   refine .inl ⟨?_, hu' _ ?_⟩
   ·unfold Jh
    rw [if_pos ho, dif_neg (λ h => hk0 h.1), if_pos h2]
   ·simp only [ji]
    simp only [e1, e2, hF.dF, hci]
  ·have e2 : (u.1 == 2) = false := by simpa using h2
   have hc : zdW 600 (zx u) = some (evV u) := zaX hu.ev.pk
   have b1 : ((D[i].map zQ).length + 1) * 288 <= zg := by unfold zg; simp; omega
   refine .inr ⟨zqa t (evV u), _, ?_, (hF.to hj).set hi (D[i] ++ [zqa t (evV u)]) (q := 4672) (by unfold TOB; omega), hu' _ ?_⟩
   ·unfold Jh
    rw [if_pos ho, dif_neg (λ h => hk0 h.1), if_neg h2]
   ·simp only [ji]
    simp only [e1, e2, hF.dF, hci, Nat.add_zero, q3, hj, hi, and_self, if_true, hc, b2, List.length_cons, List.length_nil, Nat.zero_add]
    refine (if_pos b1).trans ?_
    rw [List.map_append]
    rfl
theorem pp27 (A : List RT0) (t : Int) (u : RT7) {k : Int} (hk : -1 <= k /\ k < A.length) (ch fl : List (List AV)) (i : Nat) (lL : Int) (X : List (List AV)) (N : Nat) (cs : List AV) (hcs : cs.map datF = cs) (tk : List Bool) (ht : tk.length = A.length) (jM : Nat × Nat) :
  zlV 600 (ch, A.map zB, fl, t, A.length, (i : Int), k, i, lL, (i : Int), decide (k >= 0), X, N, u, cs, bc tk, jM) = some (ch, A.map zB, fl, t, A.length, (i : Int), k, i, lL, (i : Int), X, N, u, cs, bc (if 0 <= k then tk.set k.toNat true else tk), jM) := by
 show (Ji 600).b _ _ ((Ji 600).L 599) some = _
 simp only [Ji]
 by_cases hk0 : 0 <= k
 ·have e1 : decide (k >= 0) = true := dT (by omega)
  have b1 : k.toNat + 1 <= (bc tk).length := by rw [zgG]; omega
  simp only [e1, hk0, hk.2, decide_true, ge_iff_le, and_self, if_true, Nat.zero_add, Nat.mul_one, b1, hcs, zgH, zH]
 ·have e1 : decide (k >= 0) = false := dF (by omega)
  simp only [e1, hk0, ge_iff_le, decide_false, if_false, hcs, zH]
theorem rd6t (xs : List (List AV)) (t : Option Nat) (r : List AV) : zdO (AV.list 29 xs t :: r) = some (xs, ()) := by
 show dec RK6 _ = _
 simp only [dec, zo9, jZ, if_true]
theorem zzc {α : Type} (P C : List α) (k : Nat) (h : P.length = k) (hk : k < C.length) (y : α) : (P ++ C.drop k).set k y = (P ++ [y]) ++ C.drop (k + 1) := by
 subst h
 rw [List.drop_eq_getElem_cons hk, List.set_append_right _ _ (Nat.le_refl _), Nat.sub_self, List.set_cons_zero, List.append_assoc, List.singleton_append]
theorem zpL {T t : Int} {m e : Nat} {C : List (List RT7)} (hC : CG T m e C) (he : e <= 500) (hm : m < 100) (A : List RT0) (hA : ∀ a ∈ A, EvG a) (L : List Int) (hL : L.length = C.length) (hr : Rg A.length L) (X : List (List AV)) : ∀ (d k f : Nat) (ch : List Int) (P : List (List RT7)) (cs : List AV) (tk : List Bool) (j : Nat), k + d = C.length -> d < f -> j <= k -> ch.length <= k -> P.length = k -> tk.length = A.length -> FC (P ++ C.drop k) j cs ->
  ∃ (cs' : List AV) (j' : Nat), (zZ 600).L f (zt ch, A.map zB, zt L, t, A.length, (C.length : Int), (k : Int), X, C.length, cs, bc tk, j, C.length) = some (.inr (zt (ch ++ zcl A t k (C.drop k) (L.drop k)), A.map zB, t, A.length, X, C.length, cs', bc (tkF tk (L.drop k)), j', C.length)) /\ FC (P ++ List.zipWith (zcq A t) (C.drop k) (L.drop k)) j' cs' := by
 have hle := hC.le
 intro d
 induction d with
 | zero =>
  intro k f ch P cs tk j hk hf hj hch hP ht hF
  obtain ⟨f, rfl⟩ := pS hf
  have d1 : C.drop k = [] := List.drop_eq_nil_of_le (by omega)
  have d2 : L.drop k = [] := List.drop_eq_nil_of_le (by omega)
  rw [d1] at hF
  refine ⟨cs, j, ?_, by rw [d1]; simpa using hF⟩
  show (zZ 600).b _ _ ((zZ 600).L f) some = _
  have e2 : decide ((k : Int) < (C.length : Int)) = false := dF (by omega)
  simp only [zZ]
  simp only [e2, zH, hF.dF, d1, d2, zcl, tkF, List.append_nil]
 | succ d ih =>
  intro k f ch P cs tk j hk hf hj hch hP ht hF
  obtain ⟨f, rfl⟩ := pS hf
  have hkl : k < C.length := by omega
  have hkL : k < L.length := by omega
  have d1 := List.drop_eq_getElem_cons hkl
  have d2 := List.drop_eq_getElem_cons hkL
  have hDl : (P ++ C.drop k).length = C.length := by simp; omega
  have hkd : k < (P ++ C.drop k).length := by omega
  have hDk : (P ++ C.drop k)[k] = C[k] := by
   rw [List.getElem_append_right (by omega)]
   simp [hP]
  have e2 : decide ((k : Int) < (C.length : Int)) = true := dT (by omega)
  have h0 : 0 <= (k : Int) := by omega
  have hk1 : (k : Int) < (C.length : Int) := by omega
  have hx := hC.xs k hkl
  have hxl := hx.le
  have hla := zpv C[k] hx.ne (by omega)
  have hlq := zb9 hx.ne
  obtain ⟨u, hu⟩ : ∃ u, u = C[k].getLast hx.ne := ⟨_, rfl⟩
  have hLast := hx.last
  rw [<- hu] at hla hLast hlq
  have hop := zBR hLast.kd
  simp only [kdV] at hop
  have hrk := hr _ (List.getElem_mem hkL)
  obtain ⟨tk', htk⟩ : ∃ tk', tk' = if 0 <= L[k] then tk.set L[k].toNat true else tk := ⟨_, rfl⟩
  have htl : tk'.length = A.length := by rw [htk]; split <;> simp [ht]
  have a27 := pp27 A t u hrk (zt ch) (zt L) k (C.length : Int) X C.length cs hF.dF tk ht (j, C.length)
  rw [<- htk] at a27
  have n1 := zp (show k < 1000000 by omega)
  have g1 : (zt L)[k]? = some [I L[k]] := Ju L k hkL
  have g2 : ([I L[k]] : List AV)[0]? = some (AV.v (.int .i64 L[k])) := rfl
  obtain ⟨tok, q3, _, q4⟩ := hF.2 k hkd
  rw [hDk] at q3
  have hkc : k < cs.length := by rw [hF.1]; omega
  have g3 : zdO (cs.drop k) = some (C[k].map zQ, ()) := by
   rw [List.drop_eq_getElem_cons hkc]
   rw [List.getElem?_eq_getElem hkc] at q3
   rw [Option.some.inj q3, rd6t]
  have hz : List.zipWith (zcq A t) (C.drop k) (L.drop k) = zcq A t C[k] L[k] :: List.zipWith (zcq A t) (C.drop (k + 1)) (L.drop (k + 1)) := by rw [d1, d2]; rfl
  have htF : tkF tk (L.drop k) = tkF tk' (L.drop (k + 1)) := by rw [d2, htk]; rfl
  have hsame : Jh A t u L[k] = none -> zcq A t C[k] L[k] = C[k] /\ zcl A t k (C.drop k) (L.drop k) = zcl A t (k + 1) (C.drop (k + 1)) (L.drop (k + 1)) := λ h => by
   rw [d1, d2]
   simp only [zcq, zcl, hlq, h, and_self]
  have hkeep : Jh A t u L[k] = none -> ∃ (cs' : List AV) (j' : Nat), (zZ 600).L f (zt ch, A.map zB, zt L, t, A.length, (C.length : Int), ((k + 1 : Nat) : Int), X, C.length, cs, bc tk', j, C.length) = some (.inr (zt (ch ++ zcl A t k (C.drop k) (L.drop k)), A.map zB, t, A.length, X, C.length, cs', bc (tkF tk (L.drop k)), j', C.length)) /\ FC (P ++ List.zipWith (zcq A t) (C.drop k) (L.drop k)) j' cs' := λ h => by
   obtain ⟨s1, s2⟩ := hsame h
   have hF' : FC ((P ++ [C[k]]) ++ C.drop (k + 1)) j cs := by rw [List.append_assoc, List.singleton_append, <- d1]; exact hF
   obtain ⟨cs', j', r1, r2⟩ := ih (k + 1) f ch (P ++ [C[k]]) cs tk' j (by omega) (by omega) (by omega) (by omega) (by simp [hP]) htl hF'
   refine ⟨cs', j', ?_, ?_⟩
   ·rw [s2, htF]; exact r1
   ·rw [hz, s1]; rw [List.append_assoc, List.singleton_append] at r2; exact r2
  cases hoc : ZA u.1 with
  | false =>
   have hnv : Jh A t u L[k] = none := by
    unfold Jh
    rw [if_neg (by rw [kdV, hoc]; decide)]
   obtain ⟨cs', j', r1, r2⟩ := hkeep hnv
   refine ⟨cs', j', ?_, r2⟩
   show (zZ 600).b _ _ ((zZ 600).L f) some = _
   generalize (zZ 600).L f = Lf at r1 |-
   rw [hoc] at hop
   simp only [zZ]
   simp only [e2, h0, hk1, decide_true, and_self, if_true, Int.toNat_natCast, g1, g2, Nat.zero_add, Nat.mul_one, g3, hla, hF.dF, zH, a27, hop, Bool.not_false, n1]
   exact r1
  | true =>
   rw [hoc] at hop
   have h33 := pp33 hA hLast hoc (t := t) hrk (zt ch) (zt L) A.length k (C.length : Int) X hF hkd hj (by rw [hDk]; omega) (bc tk') (zH tk')
   rw [hDl] at h33
   rcases h33 with ⟨hnv, a33⟩ | ⟨v, cs1, hnv, hF1, a33⟩
   ·obtain ⟨cs', j', r1, r2⟩ := hkeep hnv
    refine ⟨cs', j', ?_, r2⟩
    show (zZ 600).b _ _ ((zZ 600).L f) some = _
    generalize (zZ 600).L f = Lf at r1 |-
    simp only [zZ]
    simp only [e2, h0, hk1, decide_true, and_self, if_true, Int.toNat_natCast, g1, g2, Nat.zero_add, Nat.mul_one, g3, hla, hF.dF, zH, a27, hop, Bool.not_true, a33, n1]
    exact r1
   ·have s1 : zcq A t C[k] L[k] = C[k] ++ [v] := by simp only [zcq, hlq, hnv]
    have s2 : zcl A t k (C.drop k) (L.drop k) = (k : Int) :: zcl A t (k + 1) (C.drop (k + 1)) (L.drop (k + 1)) := by
     rw [d1, d2]
     simp only [zcl, hlq, hnv]
    obtain ⟨tok2, y3, _, _⟩ := hF1.2 k (by simpa using hkd)
    rw [List.getElem_set_self, hDk] at y3
    have l1 : jZ 29 (AV.list 29 ((C[k] ++ [v]).map zQ) tok2) = some ((C[k] ++ [v]).map zQ) := by simp [jZ]
    have c1 : decide ((((C[k] ++ [v]).map zQ).length : Int) > 100) = false := by rw [decide_eq_false_iff_not]; simp; omega
    rw [hDk, zzc P C k hP hkl] at hF1
    obtain ⟨cs', j', r1, r2⟩ := ih (k + 1) f (ch ++ [(k : Int)]) (P ++ [C[k] ++ [v]]) cs1 tk' (k + 1) (by omega) (by omega) (by omega) (by simp; omega) (by simp [hP]) htl hF1
    refine ⟨cs', j', ?_, ?_⟩
    ·have b3 : ((zt ch).length + 1) * 8 <= zg := by rw [je]; unfold zg; omega
     have r0 : zt (ch ++ [(k : Int)]) = zt ch ++ [[AV.v (.int .i64 (k : Int))]] := by simp [zt]
     rw [s2, htF]
     rw [r0, List.append_assoc, List.singleton_append] at r1
     show (zZ 600).b _ _ ((zZ 600).L f) some = _
     generalize (zZ 600).L f = Lf at r1 |-
     simp only [zZ]
     simp only [e2, h0, hk1, decide_true, and_self, if_true, Int.toNat_natCast, g1, g2, Nat.zero_add, Nat.mul_one, Nat.add_zero, g3, hla, hF.dF, zH, a27, hop, Bool.not_true, a33, n1, y3, l1, c1, b3, hF1.dF, List.length_cons, List.length_nil]
     exact r1
    ·rw [hz, s1]; rw [List.append_assoc, List.singleton_append] at r2; exact r2
end Go.Proofs.YthdgnfcbehcplaaDoor
end
section
namespace Go.Proofs.YthdgnfcbehcplaaDoor
theorem zcy {t : Int} : ∀ {A : List RT0} {T : List Bool} {x : List RT7}, x ∈ news t A T -> ∃ a ∈ A, x = [zaG t a]
 | [], _, _, h => by cases h
 | a :: A, [], _, h => by cases h
 | a :: A, b :: T, x, h => by
  simp only [news] at h
  split at h
  ·obtain ⟨a', h1, h2⟩ := zcy h
   exact ⟨a', List.mem_cons_of_mem _ h1, h2⟩
  ·rcases List.mem_cons.1 h with h | h
   ·exact ⟨a, List.mem_cons_self, h⟩
   ·obtain ⟨a', h1, h2⟩ := zcy h
    exact ⟨a', List.mem_cons_of_mem _ h1, h2⟩
theorem zfR (t : Int) : ∀ (A : List RT0) (T : List Bool), (news t A T).length <= A.length
 | [], _ => Nat.le_refl _
 | a :: A, [] => Nat.zero_le _
 | a :: A, b :: T => by
  have := zfR t A T
  simp only [news]
  split
  ·simp; omega
  ·simp; omega
noncomputable def zcp (C : List (List RT7)) (A : List RT0) (L : List Int) (t : Int) : List (List RT7) := List.zipWith (zcq A t) C L ++ news t A (tkF (List.replicate A.length false) L)
theorem zby {C : List (List RT7)} {L : List Int} (h : L.length = C.length) (A : List RT0) (t : Int) : (List.zipWith (zcq A t) C L).length = C.length := by simp [h]
theorem zBX {A : List RT0} (hA : ∀ a ∈ A, EvG a) {T t : Int} {n n' i m : Nat} {x : List RT7} (hx : XG T n i m x) (hT : T <= t) (hn : n <= n') (k : Int) : XG t n' i (m + 1) (zcq A t x k) := by
 unfold zcq
 rw [zb9 hx.ne]
 dsimp only
 cases hv : Jh A t (x.getLast hx.ne) k with
 | none => exact hx.mono hT hn (by omega)
 | some v =>
  obtain ⟨g1, g2⟩ := zw2 hA hx hT hv
  exact (hx.snoc hT g1 g2).mono (Int.le_refl _) hn (Nat.le_refl _)
theorem zBi {α : Type} (P Q : List α) (k : Nat) (h : k < P.length) (h' : k < (P ++ Q).length) : (P ++ Q)[k] = P[k] := List.getElem_append_left h
theorem zD9 {α : Type} (P Q : List α) (k : Nat) (h : P.length <= k) (h' : k < (P ++ Q).length) : (P ++ Q)[k] = Q[k - P.length]'(by simp at h'; omega) := List.getElem_append_right h
theorem CG.pub {T t : Int} {m e : Nat} {C : List (List RT7)} (hC : CG T m e C) (hT : T <= t) (h0 : 0 <= t) {A : List RT0} (hA : ∀ a ∈ A, EvG a) {L : List Int} (hL : L.length = C.length) : CG t (m + 1) (e + A.length) (zcp C A L t) := by
 have hz := zby hL A t
 have hn := zfR t A (tkF (List.replicate A.length false) L)
 have hle := hC.le
 have hl : C.length <= (zcp C A L t).length := by unfold zcp; rw [List.length_append, hz]; omega
 refine ⟨λ k hk => ?_, by unfold zcp; rw [List.length_append, hz]; omega⟩
 by_cases h : k < C.length
 ·have e : (zcp C A L t)[k] = zcq A t C[k] (L[k]'(by omega)) := by
   refine (zBi (List.zipWith (zcq A t) C L) _ k (by rw [hz]; exact h) hk).trans ?_
   rw [List.getElem_zipWith]
  rw [e]
  exact zBX hA (hC.xs k h) hT hl _
 ·have hm : (zcp C A L t)[k] ∈ news t A (tkF (List.replicate A.length false) L) := by
   have e : (zcp C A L t)[k] = _ := zD9 (List.zipWith (zcq A t) C L) _ k (by rw [hz]; omega) hk
   rw [e]
   exact List.getElem_mem _
  obtain ⟨a, h1, h2⟩ := zcy hm
  rw [h2]
  exact XG.one (by omega) (zo2 (T := t) h0 (hA a h1)) rfl
theorem zid {t : Int} (A : List RT0) (hA : ∀ a ∈ A, EvG a) (hAl : A.length <= 100) (tk : List Bool) (ht : tk.length = A.length) (X : List (List AV)) : ∀ (d k f : Nat) (ch : List Int) (D : List (List RT7)), k + d = A.length -> d < f -> D.length + d <= 500 -> ch.length <= D.length ->
  (ZC 600).L f (zt ch, A.map zB, t, A.length, (A.length : Int), (k : Int), X, D.length, bc tk, zar D) = some (zt (ch ++ (List.range' D.length (news t (A.drop k) (tk.drop k)).length).map λ x : Nat => (x : Int)), X, (D ++ news t (A.drop k) (tk.drop k)).length, zar (D ++ news t (A.drop k) (tk.drop k))) := by
 intro d
 induction d with
 | zero =>
  intro k f ch D hk hf he hch
  obtain ⟨f, rfl⟩ := pS hf
  show (ZC 600).b _ _ ((ZC 600).L f) some = _
  have e2 : decide ((k : Int) < (A.length : Int)) = false := dF (by omega)
  have d1 : A.drop k = [] := List.drop_eq_nil_of_le (by omega)
  simp only [ZC]
  simp only [e2, jV, d1, news, List.append_nil, List.length_nil, List.range'_zero, List.map_nil]
 | succ d ih =>
  intro k f ch D hk hf he hch
  obtain ⟨f, rfl⟩ := pS hf
  have hkl : k < A.length := by omega
  have hkt : k < tk.length := by omega
  have d1 := List.drop_eq_getElem_cons hkl
  have d2 := List.drop_eq_getElem_cons hkt
  have e2 : decide ((k : Int) < (A.length : Int)) = true := dT (by omega)
  have h0 : 0 <= (k : Int) := by omega
  have h1 : (k : Int) < (A.length : Int) := by omega
  have n1 := zp (show k < 1000000 by omega)
  show (ZC 600).b _ _ ((ZC 600).L f) some = _
  cases hb : tk[k] with
  | true =>
   have r1 := ih (k + 1) f ch D (by omega) (by omega) (by omega) hch
   generalize (ZC 600).L f = Lf at r1 |-
   have hn : news t (A.drop k) (tk.drop k) = news t (A.drop (k + 1)) (tk.drop (k + 1)) := by
    rw [d1, d2]; simp only [news, hb, if_true]
   simp only [ZC]
   simp only [e2, h0, h1, decide_true, and_self, if_true, Int.toNat_natCast, zcm A k hkl, ZD, Nat.zero_add, Nat.mul_one, J0 tk k hkt, hb, Bool.not_true, zH, jV, n1, hn]
   exact r1
  | false =>
   have r1 := ih (k + 1) f (ch ++ [(D.length : Int)]) (D ++ [[zaG t A[k]]]) (by omega) (by omega) (by simp; omega) (by simp; omega)
   obtain ⟨Lf, hLf⟩ : ∃ Lf, Lf = (ZC 600).L f := ⟨_, rfl⟩
   have hn : news t (A.drop k) (tk.drop k) = [zaG t A[k]] :: news t (A.drop (k + 1)) (tk.drop (k + 1)) := by
    rw [d1, d2]; simp only [news, hb, Bool.false_eq_true, if_false]
   have hl1 : (D ++ [[zaG t A[k]]]).length = D.length + 1 := by simp
   have r0 : zt (ch ++ [(D.length : Int)]) = zt ch ++ [[AV.v (.int .i64 ((D.length : Nat) : Int))]] := by simp [zt]
   rw [List.append_assoc, List.append_assoc, List.singleton_append, List.singleton_append, <- hn, hl1, <- ziS, r0] at r1
   have hr' : ∀ q : Nat, (((List.range' D.length (q + 1)).map λ x : Nat => (x : Int))) = (D.length : Int) :: (List.range' (D.length + 1) q).map λ x : Nat => (x : Int) := λ q => by
    rw [List.range'_succ, List.map_cons]
   have hnl : (news t (A.drop k) (tk.drop k)).length = (news t (A.drop (k + 1)) (tk.drop (k + 1))).length + 1 := by rw [hn]; simp
   rw [<- hr', <- hnl] at r1
   rw [<- hLf] at r1 |-
   have hc := zaX (hA A[k] (List.getElem_mem _)).pk
   have b1 : ((zt ch).length + 1) * 8 <= zg := by rw [je]; unfold zg; omega
   have b2 : (D.length * 1 <= (zar D).length /\ (D.length + 1) * 24 <= zg) := by rw [zaW]; unfold zg; omega
   simp only [ZC]
   simp only [e2, h0, h1, decide_true, and_self, if_true, Int.toNat_natCast, zcm A k hkl, ZD, Nat.zero_add, zH, jV, n1, List.length_cons, List.length_nil, b1, hc]
   simp only [Nat.mul_one, J0 tk k hkt, hb, Bool.not_false]
   rw [Nat.mul_one] at b2 r1
   exact (if_pos b2).trans r1
structure FInv (A : List RT0) (n : Nat) (o : List Int) (t : List Bool) : Prop where
 ol : o.length = n
 tl : t.length = A.length
 rg : Rg A.length o
 tk : ∀ i (h : i < o.length) (j : Nat) (hj : j < t.length), o[i] = (j : Int) -> t[j] = true
 inj : ∀ i i' (h : i < o.length) (h' : i' < o.length), 0 <= o[i] -> o[i] = o[i'] -> i = i'
theorem Pass.inv {M : RT0 -> RT0 -> Prop} {C : List (List RT7)} {A : List RT0} {k : Nat} {o o' : List Int} {t t' : List Bool} (h : Pass M C A k o t o' t') (n : Nat) (hi : FInv A n o t) : FInv A n o' t' := by
 induction h with
 | done _ => exact hi
 | skip _ _ _ ih => exact ih hi
 | miss _ _ _ _ _ ih => exact ih hi
 | @hit k j o o' t t' a h1 h2 h3 h4 _ ih =>
  obtain ⟨ol, tl, rg, tk, inj⟩ := hi
  obtain ⟨g1, g2, g3, g4, g5, g6⟩ := h4
  have hfr : ∀ i (h : i < o.length), o[i] ≠ (j : Int) := λ i h e => by
   have := tk i h j g2 e
   rw [g4] at this; cases this
  refine ih ⟨by simpa using ol, by simpa using tl, rg.set k (by omega), λ i hi l hl he => ?_, λ i i' hi hi' h0 he => ?_⟩
  ·simp only [List.length_set] at hi hl
   rw [List.getElem_set]
   split
   ·rfl
   ·rename_i hne
    rw [List.getElem_set] at he
    split at he
    ·exact absurd (by omega : j = l) hne
    ·exact tk i hi l hl he
  ·simp only [List.length_set] at hi hi'
   rw [List.getElem_set] at h0 he
   rw [List.getElem_set] at he
   split at he
   ·rename_i e1
    split at he
    ·omega
    ·exact absurd he.symm (hfr i' hi')
   ·rename_i e1
    rw [if_neg e1] at h0
    split at he
    ·exact absurd he (hfr i hi)
    ·exact inj i i' hi hi' h0 he
theorem FolP.inv {C : List (List RT7)} {A : List RT0} {L : List Int} (h : FolP C A L) : L.length = C.length /\ Rg A.length L /\ ∀ i i' (h : i < L.length) (h' : i' < L.length), 0 <= L[i] -> L[i] = L[i'] -> i = i' := by
 obtain ⟨L1, t1, t2, h1, h2⟩ := h
 have h3 := h2.inv C.length (h1.inv C.length ⟨by simp, by simp, λ x hx => by rw [(List.mem_replicate.1 hx).2]; omega, λ i h j hj e => by
  simp at e, λ i i' h h' h0 => by simp at h0⟩)
 exact ⟨h3.ol, h3.rg, h3.inj⟩
theorem zhM (A : List RT0) (t : Int) : ∀ (C : List (List RT7)) (L : List Int) (k : Nat), (zcl A t k C L).length <= C.length
 | [], _, _ => Nat.zero_le _
 | x :: C, [], _ => Nat.zero_le _
 | x :: C, l :: L, k => by
  have := zhM A t C L (k + 1)
  simp only [zcl]
  split
  ·split <;> simp <;> omega
  ·simp; omega
noncomputable def zBn (C : List (List RT7)) (A : List RT0) (L : List Int) (t : Int) : List Int := zcl A t 0 C L ++ (List.range' C.length (news t A (tkF (List.replicate A.length false) L)).length).map λ x : Nat => (x : Int)
theorem zpO {T t : Int} {m e : Nat} {C : List (List RT7)} (hC : CG T m e C) {A : List RT0} {M : Nat} (hM : M <= 5) (hA : Evs 0 M A) (he : e <= 63) (hm : m < 100) (hT : T <= t) (hT0 : 0 <= T) (ht : t <= 18014398509481984) : ∃ L, zl3 600 (zO C, A.map zB) = some (zt L) /\ FolP C A L /\ zjJ 600 (zO C, A.map zB, t) = some (zO (zcp C A L t), zt (zBn C A L t), 0) /\ CG t (m + 1) (e + A.length) (zcp C A L t) := by
 have hle := hC.le
 have hAl := zdr hA
 have hg : ∀ a ∈ A, EvG a := λ a ha => (hA.evn hM a ha).g
 have hV := zoV (by omega) (by omega) (by omega) hC
 have hE := zaI hM hA
 have hTm := zvr (by omega) (by omega) hC hT (by omega) ht hT0
 obtain ⟨cs, q1, q2⟩ := zBu (by omega) (by omega) hC
 obtain ⟨L, f1, f2, f3⟩ := zuF he (by omega) hC A (by omega) (λ a ha => (hg a ha).pk)
 have hrg := f3.inv.2.1
 refine ⟨L, f1, f3, ?_, hC.pub hT (by omega) hg f2⟩
 obtain ⟨cs', j', p1, p2⟩ := zpL hC (by omega) hm A hg L f2 hrg [] (t := t) C.length 0 600 [] [] cs (List.replicate A.length false) 0 (by omega) (by omega) (by omega) (by simp) rfl (by simp) (by simpa using q2)
 have hz := zby f2 A t
 have hch := zhM A t C L 0
 simp only [List.drop_zero, List.nil_append] at p1 p2
 replace p1 : (zZ 600).L 600 ([], A.map zB, zt L, t, A.length, (C.length : Int), 0, [], C.length, cs, bc (List.replicate A.length false), 0, C.length) = _ := p1
 have s1 := zid A hg (by omega) (tkF (List.replicate A.length false) L) (by rw [zio]; simp) [] (t := t) A.length 0 600 (zcl A t 0 C L) (List.zipWith (zcq A t) C L) (by omega) (by omega) (by rw [hz]; omega) (by rw [hz]; omega)
 simp only [List.drop_zero, hz] at s1
 replace s1 : (ZC 600).L 600 (zt (zcl A t 0 C L), A.map zB, t, A.length, (A.length : Int), 0, [], C.length, bc (tkF (List.replicate A.length false) L), zar (List.zipWith (zcq A t) C L)) = _ := s1
 have hpl : (List.zipWith (zcq A t) C L ++ news t A (tkF (List.replicate A.length false) L)).length <= 500 := by
  have := zfR t A (tkF (List.replicate A.length false) L)
  rw [List.length_append, hz]; omega
 obtain ⟨D, hD⟩ : ∃ D, D = List.zipWith (zcq A t) C L ++ news t A (tkF (List.replicate A.length false) L) := ⟨_, rfl⟩
 rw [<- hD] at s1 hpl
 have n7 : decide (((D.length : Nat) : Int) > 500) = false := dF (by omega)
 have n8 : D.length * 1 <= (zar D).length := by rw [zaW]; omega
 have n9 : ((0 : Int) != 0) = false := by decide
 have c1 : (0 <= (A.length : Int) /\ (A.length : Int) <= (A.length : Int) /\ (A.length : Int).toNat * 1 <= zg) := by unfold zg; omega
 simp only [zjJ, FSpec.d, zdQ, hV, hE, hTm, Bool.not_true, n9, q1, List.length_map]
 rw [if_pos c1]
 simp only [f1, q2.dJ, q2.dF, je, List.length_map, f2, zo3, zH, Int.toNat_natCast, zlU, p1, zlW, p2.d0, s1, n7]
 rw [if_pos n8, zeI]
 rw [hD]
 rfl
end Go.Proofs.YthdgnfcbehcplaaDoor
end
section
namespace Go.Proofs.YthdgnfcbehcplaaDoor
theorem zdz {A : List RT0} {t : Int} {u : RT7} {k : Int} (h : ZA (kdV u) = false) : Jh A t u k = none := by
 unfold Jh
 rw [if_neg (by rw [h]; decide)]
theorem zu8 {C : List (List RT7)} {A : List RT0} {L : List Int} {t : Int} (hL : L.length = C.length) : C.length <= (zcp C A L t).length := by
 unfold zcp
 rw [List.length_append, zby hL]
 omega
theorem zu7 {C : List (List RT7)} {A : List RT0} {L : List Int} {t : Int} (hL : L.length = C.length) (k : Nat) (h : k < C.length) (h' : k < (zcp C A L t).length) : (zcp C A L t)[k] = zcq A t C[k] (L[k]'(by omega)) := by
 refine (zBi (List.zipWith (zcq A t) C L) _ k (by rw [zby hL]; exact h) h').trans ?_
 rw [List.getElem_zipWith]
end Go.Proofs.YthdgnfcbehcplaaDoor
end
section
namespace Go.Proofs.YthdgnfcbehcplaaDoor
def gi (o : List Int) (i : Nat) : Int := o.getD i (-1)
def gb (t : List Bool) (i : Nat) : Bool := t.getD i false
theorem zea {o : List Int} {i : Nat} (h : i < o.length) : gi o i = o[i] := by simp [gi, List.getD_eq_getElem?_getD, h]
theorem zuH {o : List Bool} {i : Nat} (h : i < o.length) : gb o i = o[i] := by simp [gb, List.getD_eq_getElem?_getD, h]
theorem zBB {o : List Int} {i : Nat} (h : o.length <= i) : gi o i = -1 := by simp [gi, List.getD_eq_getElem?_getD, h]
theorem zeN {o : List Int} {k : Nat} (h : k < o.length) (x : Int) (i : Nat) : gi (o.set k x) i = if i = k then x else gi o i := by
 simp only [gi, List.getD_eq_getElem?_getD, List.getElem?_set]
 by_cases e : k = i
 ·subst e; simp [h]
 ·rw [if_neg e, if_neg (λ h => e h.symm)]
theorem zi9 {o : List Bool} {k : Nat} (h : k < o.length) (x : Bool) (i : Nat) : gb (o.set k x) i = if i = k then x else gb o i := by
 simp only [gb, List.getD_eq_getElem?_getD, List.getElem?_set]
 by_cases e : k = i
 ·subst e; simp [h]
 ·rw [if_neg e, if_neg (λ h => e h.symm)]
theorem zBA (n i : Nat) : gb (List.replicate n false) i = false := by
 simp only [gb, List.getD_eq_getElem?_getD, List.getElem?_replicate]
 split <;> rfl
def evI (C : List (List RT7)) (i : Nat) : Option RT0 := (C[i]?).bind laE
theorem zwT {C : List (List RT7)} {i : Nat} (h : i < C.length) : evI C i = laE C[i] := by simp [evI, h]
def NmI (C : List (List RT7)) (i : Nat) (nm : RT1) : Prop := ∃ a, evI C i = some a /\ nmE a = nm
def Fst (C : List (List RT7)) (i : Nat) (nm : RT1) : Prop := NmI C i nm /\ ∀ i', i' < i -> ¬ NmI C i' nm
def Dis (A : List RT0) : Prop := A.Pairwise λ a b => nmE a ≠ nmE b
theorem Dis.eq {A : List RT0} (h : Dis A) {i j : Nat} (hi : i < A.length) (hj : j < A.length) (e : nmE A[i] = nmE A[j]) : i = j := by
 have hp := List.pairwise_iff_getElem.1 h
 rcases Nat.lt_trichotomy i j with h1 | h1 | h1
 ·exact absurd e (hp i j hi hj h1)
 ·exact h1
 ·exact absurd e.symm (hp j i hj hi h1)
structure I1 (C : List (List RT7)) (A : List RT0) (k : Nat) (o : List Int) (t : List Bool) : Prop where
 ol : o.length = C.length
 tl : t.length = A.length
 rg : ∀ i, -1 <= gi o i /\ gi o i < A.length
 hi : ∀ i, k <= i -> gi o i = -1
 eq : ∀ i, i < k -> ∀ j (hj : j < A.length), gi o i = (j : Int) ↔ Fst C i (nmE A[j])
 tk : ∀ j (hj : j < A.length), gb t j = true ↔ ∃ i, i < k /\ NmI C i (nmE A[j])
theorem Pass.one {C : List (List RT7)} {A : List RT0} (hd : Dis A) {k : Nat} {o o' : List Int} {t t' : List Bool} (h : Pass SameN C A k o t o' t') : I1 C A k o t -> ∃ n, C.length <= n /\ I1 C A n o' t' := by
 induction h with
 | @done k o t h => exact λ hI => ⟨k, h, hI⟩
 | @skip k o o' t t' h1 h2 _ ih =>
  intro hI
  exfalso
  have := hI.hi k (Nat.le_refl _)
  rw [zea (by rw [hI.ol]; exact h1)] at this
  have := h2 (by rw [hI.ol]; exact h1)
  omega
 | @hit k j o o' t t' a h1 h2 h3 h4 _ ih =>
  intro hI
  obtain ⟨g1, g2, g3, g4, g5, g6⟩ := h4
  have hev : evI C k = some a := by rw [zwT h1, h3]
  have hn : ∀ nm, NmI C k nm ↔ nmE a = nm := λ nm => by
   unfold NmI
   rw [hev]
   exact ⟨λ ⟨b, e, h⟩ => by rw [Option.some.inj e]; exact h, λ h => ⟨a, rfl, h⟩⟩
  have g5' : nmE a = nmE A[j] := g5
  have hko : k < o.length := by rw [hI.ol]; exact h1
  have hjf : ¬ ∃ i, i < k /\ NmI C i (nmE A[j]) := λ hc => by
   have := (hI.tk j g1).2 hc
   rw [zuH g2, g4] at this; cases this
  refine ih ⟨by simpa using hI.ol, by simpa using hI.tl, λ i => ?_, λ i hi => ?_, λ i hi j' hj' => ?_, λ j' hj' => ?_⟩
  ·rw [zeN hko]
   split
   ·omega
   ·exact hI.rg i
  ·rw [zeN hko, if_neg (by omega)]
   exact hI.hi i (by omega)
  ·rw [zeN hko]
   by_cases e : i = k
   ·subst e
    rw [if_pos rfl]
    constructor
    ·intro e
     obtain rfl : j = j' := by omega
     exact ⟨(hn _).2 g5', λ i' hi' h => hjf ⟨i', hi', h⟩⟩
    ·intro ⟨e, _⟩
     rw [hn, g5'] at e
     rw [hd.eq g1 hj' e]
   ·rw [if_neg e]
    exact hI.eq i (by omega) j' hj'
  ·rw [zi9 g2]
   by_cases e : j' = j
   ·subst e
    rw [if_pos rfl]
    exact ⟨λ _ => ⟨k, by omega, (hn _).2 g5'⟩, λ _ => rfl⟩
   ·rw [if_neg e, hI.tk j' hj']
    constructor
    ·rintro ⟨i, h, h'⟩; exact ⟨i, by omega, h'⟩
    ·rintro ⟨i, h, h'⟩
     by_cases e2 : i = k
     ·subst e2
      rw [hn, g5'] at h'
      exact absurd (hd.eq g1 hj' h').symm e
     ·exact ⟨i, by omega, h'⟩
 | @miss k o o' t t' a h1 h2 h3 h4 _ ih =>
  intro hI
  have hev : evI C k = some a := by rw [zwT h1, h3]
  have hn : ∀ nm, NmI C k nm ↔ nmE a = nm := λ nm => by
   unfold NmI
   rw [hev]
   exact ⟨λ ⟨b, e, h⟩ => by rw [Option.some.inj e]; exact h, λ h => ⟨a, rfl, h⟩⟩
  have hm : ∀ j (hj : j < A.length), NmI C k (nmE A[j]) -> ∃ i, i < k /\ NmI C i (nmE A[j]) := λ j hj h => by
   rw [<- hI.tk j hj]
   have hjt : j < t.length := by rw [hI.tl]; exact hj
   rw [zuH hjt]
   cases hb : t[j] with
   | true => rfl
   | false => exact absurd ((hn _).1 h) (h4 j hj hjt (Nat.zero_le _) hb)
  refine ih ⟨hI.ol, hI.tl, hI.rg, λ i hi => hI.hi i (by omega), λ i hi j hj => ?_, λ j hj => ?_⟩
  ·by_cases e : i = k
   ·subst e
    rw [hI.hi i (Nat.le_refl _)]
    constructor
    ·intro e; omega
    ·rintro ⟨e1, e2⟩
     obtain ⟨i', h1, h2⟩ := hm j hj e1
     exact absurd h2 (e2 i' h1)
   ·exact hI.eq i (by omega) j hj
  ·rw [hI.tk j hj]
   constructor
   ·rintro ⟨i, h, h'⟩; exact ⟨i, by omega, h'⟩
   ·rintro ⟨i, h, h'⟩
    by_cases e : i = k
    ·subst e; exact hm j hj h'
    ·exact ⟨i, by omega, h'⟩
theorem Pass.keep {M : RT0 -> RT0 -> Prop} {C : List (List RT7)} {A : List RT0} {k : Nat} {o o' : List Int} {t t' : List Bool} (h : Pass M C A k o t o' t') : o.length = C.length -> (∀ i, i < k -> gi o' i = gi o i) /\ (∀ i, 0 <= gi o i -> gi o' i = gi o i) /\ o'.length = C.length /\ t'.length = t.length := by
 induction h with
 | done _ => exact λ h => ⟨λ _ _ => rfl, λ _ _ => rfl, h, rfl⟩
 | skip _ _ _ ih => exact λ h => ⟨λ i hi => (ih h).1 i (by omega), (ih h).2⟩
 | miss _ _ _ _ _ ih => exact λ h => ⟨λ i hi => (ih h).1 i (by omega), (ih h).2⟩
 | @hit k j o o' t t' a h1 h2 h3 h4 _ ih =>
  intro h
  have hko : k < o.length := by rw [h]; exact h1
  obtain ⟨q1, q2, q3, q4⟩ := ih (by simpa using h)
  refine ⟨λ i hi => ?_, λ i hi => ?_, q3, by rw [q4]; simp⟩
  ·rw [q1 i (by omega), zeN hko, if_neg (by omega)]
  ·by_cases e : i = k
   ·subst e
    have := h2 hko
    rw [zea hko] at hi
    omega
   ·rw [q2 i (by rw [zeN hko, if_neg e]; exact hi), zeN hko, if_neg e]
end Go.Proofs.YthdgnfcbehcplaaDoor
end
section
namespace Go.Proofs.YthdgnfcbehcplaaDoor
def opn (C : List (List RT7)) (i : Nat) : Prop := ∃ x u, C[i]? = some x /\ x.getLast? = some u /\ ZA (kdV u) = true
theorem SameN.nm {a e : RT0} : SameN a e ↔ nmE a = nmE e := Iff.rfl
structure R2 (C D : List (List RT7)) (A : List RT0) (L o1 : List Int) (N : Nat -> Int) (U : Nat -> Prop) (k : Nat) (t : List Bool) (o' : List Int) (t' : List Bool) : Prop where
 ol : o'.length = D.length
 tl : t.length = A.length
 tl' : t'.length = A.length
 lo : ∀ i, i < C.length -> i < k -> gi o' i = gi L i
 mi : ∀ i, i < C.length -> k <= i -> (opn C i \/ 0 <= gi o1 i -> gi o' i = gi L i) /\ (¬ (opn C i \/ 0 <= gi o1 i) -> gi o' i = -1)
 up : ∀ i, C.length <= i -> i < D.length -> gi o' i = N i /\ 0 <= N i
 tk : ∀ j, j < A.length -> (gb t' j = true ↔ gb t j = true \/ (∃ i, i < C.length /\ gi L i = (j : Int) /\ opn C i) \/ U j)
end Go.Proofs.YthdgnfcbehcplaaDoor
end
section
namespace Go.Proofs.YthdgnfcbehcplaaDoor
theorem zpN {A : List RT0} {t : Int} {x : List RT7} {k : Int} {u : RT7} (h : x.getLast? = some u) : (zcq A t x k).getLast? = some ((Jh A t u k).getD u) := by
 unfold zcq
 rw [h]
 dsimp only
 cases hv : Jh A t u k with
 | none => simpa using h
 | some v => simp
theorem zyO {A : List RT0} {t : Int} {u : RT7} {k : Int} : evV ((Jh A t u k).getD u) = if h : ZA (kdV u) = true /\ 0 <= k /\ k < A.length then A[k.toNat] else evV u := by
 by_cases ho : ZA (kdV u) = true
 ·by_cases hk : 0 <= k /\ k < A.length
  ·obtain ⟨z, rfl⟩ : ∃ z : Nat, k = (z : Int) := ⟨k.toNat, by omega⟩
   have hz : z < A.length := by omega
   rw [dif_pos ⟨ho, hk⟩]
   simp only [Int.toNat_natCast]
   by_cases hs : jN (kdV u) = true /\ evV u = A[z]
   ·rw [zh9 ho hz hs]; exact hs.2
   ·rw [zfP ho hz hs]; rfl
  ·rw [dif_neg (λ h => hk h.2)]
   by_cases h2 : kdV u = 2
   ·have e : Jh A t u k = none := by
     unfold Jh
     rw [if_pos ho, dif_neg hk, if_pos h2]
    rw [e]; rfl
   ·have e : Jh A t u k = some (zqa t (evV u)) := by
     unfold Jh
     rw [if_pos ho, dif_neg hk, if_neg h2]
    rw [e]; rfl
 ·rw [dif_neg (λ h => ho h.1), zdz (by simpa using ho)]; rfl
theorem ziq : ∀ (L : List Int) (t : List Bool) (j : Nat), j < t.length -> (gb (tkF t L) j = true ↔ gb t j = true \/ (j : Int) ∈ L)
 | [], t, j, _ => by simp [tkF]
 | x :: L, t, j, hj => by
  show gb (tkF (if 0 <= x then t.set x.toNat true else t) L) j = true ↔ _
  by_cases hx : 0 <= x
  ·rw [if_pos hx, ziq L _ j (by simpa using hj), List.mem_cons]
   have : gb (t.set x.toNat true) j = true ↔ gb t j = true \/ (j : Int) = x := by
    by_cases hxl : x.toNat < t.length
    ·rw [zi9 hxl]
     by_cases e : j = x.toNat
     ·rw [if_pos e]; simp; omega
     ·rw [if_neg e]
      exact ⟨.inl, λ h => h.elim id (λ h => absurd (by omega) e)⟩
    ·rw [List.set_eq_of_length_le (by omega)]
     exact ⟨.inl, λ h => h.elim id (λ h => by omega)⟩
   rw [this]
   constructor
   ·rintro ((h | h) | h)
    ·exact .inl h
    ·exact .inr (.inl h)
    ·exact .inr (.inr h)
   ·rintro (h | h | h)
    ·exact .inl (.inl h)
    ·exact .inl (.inr h)
    ·exact .inr h
  ·rw [if_neg hx, ziq L _ j hj, List.mem_cons]
   constructor
   ·rintro (h | h)
    ·exact .inl h
    ·exact .inr (.inr h)
   ·rintro (h | h | h)
    ·exact .inl h
    ·omega
    ·exact .inr h
theorem zjm (t : Int) : ∀ (A : List RT0) (T : List Bool), T.length = A.length -> (∀ r, r < (news t A T).length -> ∃ (j : Nat) (h : j < A.length), gb T j = false /\ (news t A T)[r]? = some [zaG t A[j]]) /\ (∀ j (h : j < A.length), gb T j = false -> ∃ r, r < (news t A T).length /\ (news t A T)[r]? = some [zaG t A[j]])
 | [], T, _ => ⟨λ r h => (by cases h), λ j h => (by cases h)⟩
 | a :: A, [], h => by cases h
 | a :: A, b :: T, h => by
  obtain ⟨h1, h2⟩ := zjm t A T (by simpa using h)
  have hg : ∀ j, gb (b :: T) (j + 1) = gb T j := λ j => by simp [gb]
  have h0 : gb (b :: T) 0 = b := rfl
  simp only [news]
  cases b with
  | true =>
   simp only [if_true]
   refine ⟨λ r hr => ?_, λ j hj hb => ?_⟩
   ·obtain ⟨j, hj, e1, e2⟩ := h1 r hr
    exact ⟨j + 1, by simpa using hj, by rw [hg]; exact e1, by simpa using e2⟩
   ·cases j with
    | zero => rw [h0] at hb; cases hb
    | succ j =>
     rw [hg] at hb
     obtain ⟨r, e1, e2⟩ := h2 j (by simpa using hj) hb
     exact ⟨r, e1, by simpa using e2⟩
  | false =>
   simp only [Bool.false_eq_true, if_false]
   refine ⟨λ r hr => ?_, λ j hj hb => ?_⟩
   ·cases r with
    | zero => exact ⟨0, by simp, h0, by simp⟩
    | succ r =>
     obtain ⟨j, hj, e1, e2⟩ := h1 r (by simpa using hr)
     exact ⟨j + 1, by simpa using hj, by rw [hg]; exact e1, by simpa using e2⟩
   ·cases j with
    | zero => exact ⟨0, by simp, by simp⟩
    | succ j =>
     rw [hg] at hb
     obtain ⟨r, e1, e2⟩ := h2 j (by simpa using hj) hb
     exact ⟨r + 1, by simpa using e1, by simpa using e2⟩
theorem zfQ {t : Int} : ∀ {A : List RT0} {T : List Bool}, Dis A -> (news t A T).Pairwise λ x y => ∀ a b : RT0, x = [zaG t a] -> y = [zaG t b] -> nmE a ≠ nmE b
 | [], _, _ => List.Pairwise.nil
 | a :: A, [], _ => List.Pairwise.nil
 | a :: A, b :: T, h => by
  obtain ⟨h1, h2⟩ := List.pairwise_cons.1 h
  simp only [news]
  split
  ·exact zfQ h2
  ·refine List.pairwise_cons.2 ⟨λ y hy a' b' ha hb => ?_, zfQ h2⟩
   obtain ⟨c, hc, rfl⟩ := zcy hy
   have e1 : a = a' := by have := congrArg (λ l : List RT7 => l.map evV) ha; simpa [zaG] using this
   have e2 : c = b' := by have := congrArg (λ l : List RT7 => l.map evV) hb; simpa [zaG] using this
   subst e1 e2
   exact h1 c hc
end Go.Proofs.YthdgnfcbehcplaaDoor
end
section
namespace Go.Proofs.YthdgnfcbehcplaaDoor
theorem zBL {L : List Int} {x : Int} : x ∈ L ↔ ∃ i, i < L.length /\ gi L i = x := by
 rw [List.mem_iff_getElem]
 constructor
 ·rintro ⟨i, h, e⟩; exact ⟨i, h, by rw [zea h]; exact e⟩
 ·rintro ⟨i, h, e⟩; exact ⟨i, h, by rw [<- zea h]; exact e⟩
structure Pub (C D : List (List RT7)) (A : List RT0) (L : List Int) (t : Int) : Prop where
 le : C.length <= D.length
 old : ∀ i, i < C.length -> ∃ u, (C[i]?).bind List.getLast? = some u /\ (D[i]?).bind List.getLast? = some ((Jh A t u (gi L i)).getD u)
 new : ∀ i, C.length <= i -> i < D.length -> ∃ (j : Nat) (h : j < A.length), (j : Int) ∉ L /\ D[i]? = some [zaG t A[j]]
 cov : ∀ j (h : j < A.length), (j : Int) ∉ L -> ∃ i, C.length <= i /\ i < D.length /\ D[i]? = some [zaG t A[j]]
 dis : ∀ i i' (a : RT0), C.length <= i -> C.length <= i' -> D[i]? = some [zaG t a] -> D[i']? = some [zaG t a] -> i = i'
theorem zBY {T t : Int} {m e : Nat} {C : List (List RT7)} (hC : CG T m e C) {A : List RT0} (hd : Dis A) {L : List Int} (hL : L.length = C.length) : Pub C (zcp C A L t) A L t := by
 have hz := zby hL A t
 obtain ⟨n1, n2⟩ := zjm t A (tkF (List.replicate A.length false) L) (by rw [zio]; simp)
 have hn := zfQ (t := t) (T := tkF (List.replicate A.length false) L) hd
 have hup : ∀ i, C.length <= i -> (zcp C A L t)[i]? = (news t A (tkF (List.replicate A.length false) L))[i - C.length]? := λ i hi => by
  unfold zcp
  rw [List.getElem?_append_right (by rw [hz]; exact hi), hz]
 have hun : ∀ j (h : j < A.length), gb (tkF (List.replicate A.length false) L) j = false ↔ (j : Int) ∉ L := λ j h => by
  have := ziq L (List.replicate A.length false) j (by simpa using h)
  rw [zBA] at this
  constructor
  ·intro h1 h2
   have := this.2 (.inr h2)
   rw [h1] at this; cases this
  ·intro h1
   cases hb : gb (tkF (List.replicate A.length false) L) j with
   | false => rfl
   | true =>
    rcases this.1 hb with h2 | h2
    ·cases h2
    ·exact absurd h2 h1
 have hlen : (zcp C A L t).length = C.length + (news t A (tkF (List.replicate A.length false) L)).length := by
  unfold zcp; rw [List.length_append, hz]
 refine ⟨zu8 hL, λ i hi => ?_, λ i hi hl => ?_, λ j hj hm => ?_, λ i i' a hi hi' e1 e2 => ?_⟩
 ·have hx := hC.xs i hi
  have hlD : i < (zcp C A L t).length := by rw [hlen]; omega
  refine ⟨C[i].getLast hx.ne, by rw [List.getElem?_eq_getElem hi]; exact zb9 hx.ne, ?_⟩
  rw [List.getElem?_eq_getElem hlD, zu7 hL i hi hlD]
  show (zcq A t C[i] _).getLast? = _
  rw [zpN (zb9 hx.ne), <- zea (by rw [hL]; exact hi)]
 ·obtain ⟨j, h, h1, h2⟩ := n1 (i - C.length) (by omega)
  exact ⟨j, h, (hun j h).1 h1, by rw [hup i hi]; exact h2⟩
 ·obtain ⟨r, h1, h2⟩ := n2 j hj ((hun j hj).2 hm)
  exact ⟨C.length + r, by omega, by omega, by rw [hup _ (by omega), show C.length + r - C.length = r by omega]; exact h2⟩
 ·rw [hup i hi] at e1
  rw [hup i' hi'] at e2
  obtain ⟨h1, q1⟩ := List.getElem?_eq_some_iff.1 e1
  obtain ⟨h2, q2⟩ := List.getElem?_eq_some_iff.1 e2
  have hp := List.pairwise_iff_getElem.1 hn
  rcases Nat.lt_trichotomy (i - C.length) (i' - C.length) with h | h | h
  ·exact absurd rfl (hp _ _ h1 h2 h a a q1 q2)
  ·omega
  ·exact absurd rfl (hp _ _ h2 h1 h a a q2 q1)
theorem zfG {C : List (List RT7)} {i : Nat} : evI C i = ((C[i]?).bind List.getLast?).map evV := by
 unfold evI
 cases C[i]? <;> rfl
theorem zuU {C : List (List RT7)} {i : Nat} : opn C i ↔ ∃ u, (C[i]?).bind List.getLast? = some u /\ ZA (kdV u) = true := by
 unfold opn
 constructor
 ·rintro ⟨x, u, h1, h2, h3⟩; exact ⟨u, by rw [h1]; exact h2, h3⟩
 ·rintro ⟨u, h1, h2⟩
  cases hc : C[i]? with
  | none => rw [hc] at h1; cases h1
  | some x => rw [hc] at h1; exact ⟨x, u, rfl, h1, h2⟩
end Go.Proofs.YthdgnfcbehcplaaDoor
end
section
namespace Go.Proofs.YthdgnfcbehcplaaDoor
theorem zps : ∀ (I J : List Nat) (f : Nat -> Nat), I.Nodup -> (∀ i ∈ I, f i ∈ J) -> (∀ i ∈ I, ∀ i' ∈ I, f i = f i' -> i = i') -> I.length <= J.length
 | [], J, _, _, _, _ => Nat.zero_le _
 | i :: I, J, f, hI, hm, hinj => by
  obtain ⟨h1, h2⟩ := List.nodup_cons.1 hI
  have hmi := hm i List.mem_cons_self
  have ih := zps I (J.erase (f i)) f h2 (λ i' h' => by
   have hne : f i' ≠ f i := λ e => h1 (by
    have := hinj i' (List.mem_cons_of_mem _ h') i List.mem_cons_self e
    rw [<- this]; exact h')
   exact (List.mem_erase_of_ne hne).2 (hm i' (List.mem_cons_of_mem _ h'))) (λ a ha b hb => hinj a (List.mem_cons_of_mem _ ha) b (List.mem_cons_of_mem _ hb))
  rw [List.length_erase_of_mem hmi] at ih
  have := List.length_pos_of_mem hmi
  simp only [List.length_cons]
  omega
theorem zpD (I J : List Nat) (R : Nat -> Nat -> Prop) (hI : I.Nodup) (hJ : J.Nodup) (h1 : ∀ i ∈ I, ∃ j ∈ J, R i j) (h2 : ∀ j ∈ J, ∃ i ∈ I, R i j) (h3 : ∀ i i' j, R i j -> R i' j -> i = i') (h4 : ∀ i j j', R i j -> R i j' -> j = j') : I.length = J.length := by
 classical
 let f : Nat -> Nat := λ i => if h : i ∈ I then Classical.choose (h1 i h) else 0
 let g : Nat -> Nat := λ j => if h : j ∈ J then Classical.choose (h2 j h) else 0
 have hf : ∀ i ∈ I, f i ∈ J /\ R i (f i) := λ i hi => by
  have := Classical.choose_spec (h1 i hi)
  simp only [f, hi, dif_pos]; exact this
 have hg : ∀ j ∈ J, g j ∈ I /\ R (g j) j := λ j hj => by
  have := Classical.choose_spec (h2 j hj)
  simp only [g, hj, dif_pos]; exact this
 refine Nat.le_antisymm (zps I J f hI (λ i hi => (hf i hi).1) λ i hi i' hi' e => ?_) (zps J I g hJ (λ j hj => (hg j hj).1) λ j hj j' hj' e => ?_)
 ·have q1 := (hf i hi).2
  have q2 := (hf i' hi').2
  rw [<- e] at q2
  exact h3 _ _ _ q1 q2
 ·have q1 := (hg j hj).2
  have q2 := (hg j' hj').2
  rw [<- e] at q2
  exact h4 _ _ _ q1 q2
def osh (D : List (List RT7)) (i : Nat) : Bool := match (D[i]?).bind List.getLast? with
 | some u => ZA (kdV u) && jN (kdV u)
 | none => false
def Wan (C : List (List RT7)) (L : List Int) (j : Nat) : Prop := ¬ ∃ i, i < C.length /\ gi L i = (j : Int) /\ ¬ opn C i
def ShE (D : List (List RT7)) (A : List RT0) (i j : Nat) : Prop := ∃ h : j < A.length, evI D i = some A[j]
theorem zyP {A : List RT0} {t : Int} {u : RT7} {k : Int} : (ZA (kdV ((Jh A t u k).getD u)) = true ↔ ZA (kdV u) = true) /\ (ZA (kdV u) = true -> (jN (kdV ((Jh A t u k).getD u)) = true ↔ 0 <= k /\ k < A.length)) := by
 by_cases ho : ZA (kdV u) = true
 ·by_cases hk : 0 <= k /\ k < A.length
  ·obtain ⟨z, rfl⟩ : ∃ z : Nat, k = (z : Int) := ⟨k.toNat, by omega⟩
   have hz : z < A.length := by omega
   by_cases hs : jN (kdV u) = true /\ evV u = A[z]
   ·rw [zh9 ho hz hs]; exact ⟨Iff.rfl, λ _ => ⟨λ _ => hk, λ _ => hs.1⟩⟩
   ·rw [zfP ho hz hs]; exact ⟨⟨λ _ => ho, λ _ => rfl⟩, λ _ => ⟨λ _ => hk, λ _ => rfl⟩⟩
  ·by_cases h2 : kdV u = 2
   ·have e : Jh A t u k = none := by
     unfold Jh
     rw [if_pos ho, dif_neg hk, if_pos h2]
    rw [e, Option.getD_none, h2]
    exact ⟨Iff.rfl, λ _ => ⟨λ h => (by cases h), λ h => absurd h hk⟩⟩
   ·have e : Jh A t u k = some (zqa t (evV u)) := by
     unfold Jh
     rw [if_pos ho, dif_neg hk, if_neg h2]
    rw [e]
    exact ⟨⟨λ _ => ho, λ _ => rfl⟩, λ _ => ⟨λ h => (by cases h), λ h => absurd h hk⟩⟩
 ·rw [zdz (by simpa using ho)]
  exact ⟨Iff.rfl, λ h => absurd h ho⟩
theorem zEq {C D : List (List RT7)} {A : List RT0} {L : List Int} {t : Int} (hd : Dis A) (hP : Pub C D A L t) (hl : L.length = C.length) (hrg : ∀ i, -1 <= gi L i /\ gi L i < A.length) (hin : ∀ i i', i < C.length -> i' < C.length -> 0 <= gi L i -> gi L i = gi L i' -> i = i') :
  (∀ i, i < D.length -> osh D i = true -> ∃ j, ShE D A i j /\ Wan C L j) /\ (∀ j, j < A.length -> Wan C L j -> ∃ i, i < D.length /\ osh D i = true /\ ShE D A i j) /\ (∀ i i' j, i < D.length -> i' < D.length -> osh D i = true -> osh D i' = true -> ShE D A i j -> ShE D A i' j -> i = i') := by
 have hmem : ∀ j : Nat, (j : Int) ∈ L ↔ ∃ i, i < C.length /\ gi L i = (j : Int) := λ j => by rw [zBL, hl]
 -- old entries
 have ho : ∀ i, i < C.length -> (osh D i = true ↔ opn C i /\ 0 <= gi L i) /\ (opn C i -> ∀ j (hj : j < A.length), gi L i = (j : Int) -> evI D i = some A[j]) := λ i hi => by
  obtain ⟨u, h1, h2⟩ := hP.old i hi
  have hopn : opn C i ↔ ZA (kdV u) = true := by
   rw [zuU]
   exact ⟨λ ⟨u', h3, h4⟩ => by rw [h1] at h3; rw [Option.some.inj h3]; exact h4, λ h => ⟨u, h1, h⟩⟩
  obtain ⟨k1, k2⟩ := zyP (A := A) (t := t) (u := u) (k := gi L i)
  refine ⟨?_, λ hop j hj e => ?_⟩
  ·unfold osh
   rw [h2]
   dsimp only
   rw [Bool.and_eq_true, k1, hopn]
   exact ⟨λ ⟨a, b⟩ => ⟨a, ((k2 a).1 b).1⟩, λ ⟨a, b⟩ => ⟨a, (k2 a).2 ⟨b, (hrg i).2⟩⟩⟩
  ·rw [zfG, h2]
   show some _ = _
   rw [zyO, dif_pos ⟨hopn.1 hop, by omega, by omega⟩]
   congr 1
   simp only [e, Int.toNat_natCast]
 have hnw : ∀ i j, C.length <= i -> (h : j < A.length) -> D[i]? = some [zaG t A[j]] -> osh D i = true /\ evI D i = some A[j] := λ i j hi hj e => by
  refine ⟨?_, by rw [zfG, e]; rfl⟩
  unfold osh; rw [e]; rfl
 have key : ∀ i j, i < D.length -> osh D i = true -> ShE D A i j -> (i < C.length /\ opn C i /\ gi L i = (j : Int)) \/ (C.length <= i /\ (j : Int) ∉ L /\ ∃ h : j < A.length, D[i]? = some [zaG t A[j]]) := λ i j hi hs he => by
  obtain ⟨hj, he⟩ := he
  by_cases hc : i < C.length
  ·obtain ⟨a1, a2⟩ := ho i hc
   obtain ⟨h1, h2⟩ := a1.1 hs
   obtain ⟨z, hz⟩ : ∃ z : Nat, gi L i = (z : Int) := ⟨(gi L i).toNat, by omega⟩
   have hzl : z < A.length := by have := (hrg i).2; omega
   have := a2 h1 z hzl hz
   rw [he] at this
   have := hd.eq hj hzl (by rw [Option.some.inj this])
   subst this
   exact .inl ⟨hc, h1, hz⟩
  ·obtain ⟨z, hz, hm, hez⟩ := hP.new i (by omega) hi
   have := (hnw i z (by omega) hz hez).2
   rw [he] at this
   have := hd.eq hj hz (by rw [Option.some.inj this])
   subst this
   exact .inr ⟨by omega, hm, hz, hez⟩
 refine ⟨λ i hi hs => ?_, λ j hj hw => ?_, λ i i' j hi hi' hs hs' he he' => ?_⟩
 ·by_cases hc : i < C.length
  ·obtain ⟨a1, a2⟩ := ho i hc
   obtain ⟨h1, h2⟩ := a1.1 hs
   obtain ⟨z, hz⟩ : ∃ z : Nat, gi L i = (z : Int) := ⟨(gi L i).toNat, by omega⟩
   have hzl : z < A.length := by have := (hrg i).2; omega
   refine ⟨z, ⟨hzl, a2 h1 z hzl hz⟩, ?_⟩
   rintro ⟨i', q1, q2, q3⟩
   have := hin i i' hc q1 h2 (by rw [hz, q2])
   subst this
   exact q3 h1
  ·obtain ⟨z, hz, hm, hez⟩ := hP.new i (by omega) hi
   refine ⟨z, ⟨hz, (hnw i z (by omega) hz hez).2⟩, ?_⟩
   rintro ⟨i', q1, q2, q3⟩
   exact hm ((hmem z).2 ⟨i', q1, q2⟩)
 ·by_cases hm : (j : Int) ∈ L
  ·obtain ⟨i, h1, h2⟩ := (hmem j).1 hm
   have hop : opn C i := Classical.byContradiction λ h => hw ⟨i, h1, h2, h⟩
   obtain ⟨a1, a2⟩ := ho i h1
   exact ⟨i, by have := hP.le; omega, a1.2 ⟨hop, by omega⟩, hj, a2 hop j hj h2⟩
  ·obtain ⟨i, h1, h2, h3⟩ := hP.cov j hj hm
   obtain ⟨b1, b2⟩ := hnw i j h1 hj h3
   exact ⟨i, h2, b1, hj, b2⟩
 ·rcases key i j hi hs he with ⟨p1, p2, p3⟩ | ⟨p1, p2, p3, p4⟩ <;> rcases key i' j hi' hs' he' with ⟨q1, q2, q3⟩ | ⟨q1, q2, q3, q4⟩
  ·exact hin i i' p1 q1 (by omega) (by rw [p3, q3])
  ·exact absurd ((hmem j).2 ⟨i, p1, p3⟩) q2
  ·exact absurd ((hmem j).2 ⟨i', q1, q3⟩) p2
  ·exact hP.dis i i' A[j] p1 q1 p4 q4
structure ChG (D : List (List RT7)) (t : Int) (L : List Int) : Prop where
 asc : L.Pairwise λ a b => a < b
 at_ : ∀ x ∈ L, ∃ i : Nat, x = (i : Int) /\ i < D.length /\ ∃ u, (D[i]?).bind List.getLast? = some u /\ atV u = t
theorem zyN {A : List RT0} {t : Int} {u v : RT7} {k : Int} (h : Jh A t u k = some v) : atV v = t := by
 unfold Jh at h
 split at h
 ·split at h
  ·split at h
   ·cases h
   ·rw [<- Option.some.inj h]; rfl
  ·split at h
   ·cases h
   ·rw [<- Option.some.inj h]; rfl
 ·cases h
theorem zo5 (A : List RT0) (t : Int) : ∀ (C : List (List RT7)) (L : List Int) (k : Nat), (zcl A t k C L).Pairwise (λ a b => a < b) /\ ∀ x ∈ zcl A t k C L, ∃ i : Nat, x = ((k + i : Nat) : Int) /\ ∃ (u v : RT7), (C[i]?).bind List.getLast? = some u /\ Jh A t u (gi L i) = some v /\ i < C.length
 | [], _, _ => ⟨by simp [zcl], λ x h => by simp [zcl] at h⟩
 | y :: C, [], _ => ⟨by simp [zcl], λ x h => by simp [zcl] at h⟩
 | y :: C, l :: L, k => by
  obtain ⟨h1, h2⟩ := zo5 A t C L (k + 1)
  have h2' : ∀ x ∈ zcl A t (k + 1) C L, ∃ i : Nat, x = ((k + i : Nat) : Int) /\ ∃ (u v : RT7), ((y :: C)[i]?).bind List.getLast? = some u /\ Jh A t u (gi (l :: L) i) = some v /\ i < (y :: C).length := λ x hx => by
   obtain ⟨i, e, u, v, q1, q2, q3⟩ := h2 x hx
   exact ⟨i + 1, by rw [e]; congr 1; omega, u, v, q1, q2, by simpa using q3⟩
  simp only [zcl]
  cases hy : y.getLast? with
  | none => exact ⟨h1, h2'⟩
  | some u =>
   dsimp only
   cases hv : Jh A t u l with
   | none => exact ⟨h1, h2'⟩
   | some v =>
    refine ⟨List.pairwise_cons.2 ⟨λ x hx => ?_, h1⟩, λ x hx => ?_⟩
    ·obtain ⟨i, e, _⟩ := h2 x hx
     omega
    ·rcases List.mem_cons.1 hx with e | hx
     ·exact ⟨0, by simpa using e, u, v, hy, hv, by simp⟩
     ·exact h2' x hx
theorem zyq {C : List (List RT7)} {A : List RT0} {L : List Int} {t : Int} (hP : Pub C (zcp C A L t) A L t) (hL : L.length = C.length) : ChG (zcp C A L t) t (zBn C A L t) := by
 obtain ⟨h1, h2⟩ := zo5 A t C L 0
 have hz := zby hL A t
 have hlen : (zcp C A L t).length = C.length + (news t A (tkF (List.replicate A.length false) L)).length := by
  unfold zcp; rw [List.length_append, hz]
 have h3 : ∀ x ∈ (List.range' C.length (news t A (tkF (List.replicate A.length false) L)).length).map (λ x : Nat => (x : Int)), ∃ i : Nat, x = (i : Int) /\ C.length <= i /\ i < (zcp C A L t).length := λ x hx => by
  obtain ⟨i, hi, e⟩ := List.mem_map.1 hx
  rw [List.mem_range'_1] at hi
  exact ⟨i, e.symm, hi.1, by omega⟩
 unfold zBn
 refine ⟨?_, λ x hx => ?_⟩
 ·rw [List.pairwise_append]
  refine ⟨h1, ?_, λ a ha b hb => ?_⟩
  ·rw [List.pairwise_map]
   exact (List.pairwise_lt_range').imp λ h => by omega
  ·obtain ⟨i, e, _, _, _, _, q⟩ := h2 a ha
   obtain ⟨i', e', q', _⟩ := h3 b hb
   omega
 ·rcases List.mem_append.1 hx with hx | hx
  ·obtain ⟨i, e, u, v, q1, q2, q3⟩ := h2 x hx
   obtain ⟨u', r1, r2⟩ := hP.old i q3
   obtain rfl : u = u' := Option.some.inj (q1.symm.trans r1)
   exact ⟨i, by rw [e]; congr 1; omega, by have := hP.le; omega, _, r2, by rw [q2, Option.getD_some]; exact zyN q2⟩
  ·obtain ⟨i, e, q1, q2⟩ := h3 x hx
   obtain ⟨j, hj, _, he⟩ := hP.new i q1 q2
   exact ⟨i, e, q2, zaG t A[j], by rw [he]; rfl, rfl⟩
end Go.Proofs.YthdgnfcbehcplaaDoor
end
section
namespace Go.Proofs.YthdgnfcbehcplaaDoor
open Go.RowKit
def bD (bs : List Bool) : DataW Unit := .agg (bs.map λ b => .lit (.bool b))
theorem jm {enc : TypeId × Value -> Unit} {P : Program} {w : World} {base : Nat} {sp : Nat -> Bool} {held : Bool} {fuel : Nat} {t e : TypeId} {n : Nat} {cs : List Value} {bs : List Bool} {p : List MemPlace}
  (ht : P.underlying t = some (.array n e)) (he : P.underlying e = some .bool) (hce : P.cellsOf e = 1) (hct : P.cellsOf t = n)
  (h : DataW.trod enc P w base sp held fuel t cs = some (bD bs, p)) : cs = bs.map Value.bool := by
 obtain ⟨xs, m, _, hx, hl, hn, hf⟩ := DataW.trod_array ht h
 have hxs : xs.map (·.1) = bs.map λ b => (DataW.lit (.bool b) : DataW Unit) := by
  have := congrArg Prod.fst hx
  unfold bD at this
  exact (DataW.agg.inj this).symm
 have hbl : bs.length = n := by
  have := congrArg List.length hxs
  simp at this
  omega
 rw [hce] at hf
 apply List.ext_getElem?
 intro i
 by_cases hi : i < n
 ·have hxi : xs[i]? = some xs[i] := List.getElem?_eq_getElem (by omega)
  have hfi := hf i hi
  rw [hxi] at hfi
  obtain ⟨b, hc, hb⟩ := DataW.trod_bool he hfi
  have h1 : cs[i]? = some (.bool b) := by
   have := congrArg (·[0]?) hc
   simpa [List.getElem?_take, List.getElem?_drop] using this
  have h2 : (xs.map (·.1))[i]? = some (DataW.lit (.bool b) : DataW Unit) := by simp [hxi, hb]
  rw [hxs] at h2
  simp only [List.getElem?_map, Option.map_eq_some_iff, DataW.lit.injEq, Lit.bool.injEq] at h2
  obtain ⟨z', hz', rfl⟩ := h2
  simp [h1, hz']
 ·rw [List.getElem?_eq_none (by omega), List.getElem?_eq_none (by simp; omega)]
theorem zdo {enc : TypeId × Value -> Unit} {P : Program} {w : World} {base : Nat} {sp : Nat -> Bool} {held : Bool} {fuel : Nat} {t r e : TypeId} {cs : List Value} {a0 a1 a2 a3 a4 a5 a6 : List Bool} {p : List MemPlace}
  (ht : P.underlying t = some (.array 7 r)) (hr : P.underlying r = some (.array 7 e)) (he : P.underlying e = some .bool) (hce : P.cellsOf e = 1) (hcr : P.cellsOf r = 7) (hct : P.cellsOf t = 49)
  (h : DataW.trod enc P w base sp held fuel t cs = some (.agg [bD a0, bD a1, bD a2, bD a3, bD a4, bD a5, bD a6], p)) : cs = (a0 ++ a1 ++ a2 ++ a3 ++ a4 ++ a5 ++ a6).map Value.bool := by
 obtain ⟨xs, m, _, hx, hl, hn, hf⟩ := DataW.trod_array ht h
 have hxs : [bD a0, bD a1, bD a2, bD a3, bD a4, bD a5, bD a6] = xs.map (·.1) := by
  have := congrArg Prod.fst hx
  exact DataW.agg.inj this
 rw [hcr] at hf
 rw [hct] at hl
 match xs, hn, hxs, hf with
 | [x0, x1, x2, x3, x4, x5, x6], _, hxs, hf =>
  simp only [List.map_cons, List.map_nil, List.cons.injEq, and_true] at hxs
  obtain ⟨e0, e1, e2, e3, e4, e5, e6⟩ := hxs
  have g : ∀ (i : Nat) (x : DataW Unit × List MemPlace) (b : List Bool), i < 7 -> [x0, x1, x2, x3, x4, x5, x6][i]? = some x -> bD b = x.1 -> (cs.drop (i * 7)).take 7 = b.map Value.bool := λ i x b hi hx hb => by
   have h2 := hf i hi
   rw [hx] at h2
   obtain ⟨x1, x2⟩ := x
   dsimp only at hb
   subst hb
   exact jm hr he hce hcr h2
  have k0 := g 0 x0 a0 (by omega) rfl e0
  have k1 := g 1 x1 a1 (by omega) rfl e1
  have k2 := g 2 x2 a2 (by omega) rfl e2
  have k3 := g 3 x3 a3 (by omega) rfl e3
  have k4 := g 4 x4 a4 (by omega) rfl e4
  have k5 := g 5 x5 a5 (by omega) rfl e5
  have k6 := g 6 x6 a6 (by omega) rfl e6
  have s : ∀ j, cs.drop (j * 7) = (cs.drop (j * 7)).take 7 ++ cs.drop ((j + 1) * 7) := λ j => by
   rw [Nat.add_mul, Nat.one_mul, <- List.drop_drop, List.take_append_drop]
  have z : cs.drop (7 * 7) = [] := List.drop_eq_nil_of_le (by omega)
  have : cs = cs.drop (0 * 7) := rfl
  rw [this, s 0, s 1, s 2, s 3, s 4, s 5, s 6, z, k0, k1, k2, k3, k4, k5, k6]
  simp only [List.map_append, List.append_nil, List.append_assoc]
theorem zbc {W : World} {n : String} {g : Nat} (P : Program) (hn : P.globalNamed n = some g) {cs : Array Value} (h : W.var? P n = some cs) : ∃ t z, W.heap[g]? = some (.cells cs t z) := by
 unfold World.var? at h
 rw [hn] at h
 have h' : (match W.heap[g]? with | some (Obj.cells cs _ _) => some cs | _ => none) = some cs := h
 split at h'
 ·rename_i c t z hc
  cases h'
  exact ⟨t, z, hc⟩
 ·cases h'
def zBI : List (String × DataW Unit) := Rows.cataloguePersonsRow.laid
theorem zzl {W : World} (h : laidMetH Tryd.prog zBI W) : (∃ t z, W.heap[0]? = some (.cells gtab0.toArray t z)) /\ (∃ t z, W.heap[1]? = some (.cells gtab1.toArray t z)) /\ (∃ t z, W.heap[2]? = some (.cells gtab2.toArray t z)) /\ (∃ t z, W.heap[3]? = some (.cells gtab3.toArray t z)) := by
 rw [MakeChecks.laidMetH_plain _ _ _ (by kernel_rfl)] at h
 obtain ⟨ps, ⟨g1, t1, c1, f1, p1, q1, n1, y1, v1, d1, ⟨g3, t3, c3, f3, p3, q3, n3, y3, v3, d3, ⟨g0, t0, c0, f0, p0, q0, n0, y0, v0, d0, ⟨g2, t2, c2, f2, p2, q2, n2, y2, v2, d2, _, _⟩, _⟩, _⟩, _⟩, _⟩ := h
 have m1 : Tryd.prog.globalNamed "seismonet/catalogue.follows" = some 1 := by kernel_rfl
 have m3 : Tryd.prog.globalNamed "seismonet/catalogue.computed" = some 3 := by kernel_rfl
 have m0 : Tryd.prog.globalNamed "seismonet/catalogue.shown" = some 0 := by kernel_rfl
 have m2 : Tryd.prog.globalNamed "seismonet/catalogue.kept" = some 2 := by kernel_rfl
 obtain rfl := Option.some.inj (m1.symm.trans n1)
 obtain rfl := Option.some.inj (m3.symm.trans n3)
 obtain rfl := Option.some.inj (m0.symm.trans n0)
 obtain rfl := Option.some.inj (m2.symm.trans n2)
 have u1 : (Tryd.prog.globals[1]?).map (·.type) = some 94 := by kernel_rfl
 have u3 : (Tryd.prog.globals[3]?).map (·.type) = some 86 := by kernel_rfl
 have u0 : (Tryd.prog.globals[0]?).map (·.type) = some 86 := by kernel_rfl
 have u2 : (Tryd.prog.globals[2]?).map (·.type) = some 86 := by kernel_rfl
 obtain rfl := Option.some.inj (u1.symm.trans y1)
 obtain rfl := Option.some.inj (u3.symm.trans y3)
 obtain rfl := Option.some.inj (u0.symm.trans y0)
 obtain rfl := Option.some.inj (u2.symm.trans y2)
 have e4 : Tryd.prog.cellsOf 4 = 1 := by kernel_rfl
 have e86 : Tryd.prog.cellsOf 86 = 7 := by kernel_rfl
 have e94 : Tryd.prog.cellsOf 94 = 49 := by kernel_rfl
 have z0 : c0.toList = gtab0 := jm (bs := [false, true, false, true, false, false, true]) Tryd.underlying86 Tryd.underlying4 e4 e86 d0
 have z2 : c2.toList = gtab2 := jm (bs := [false, false, true, false, true, true, true]) Tryd.underlying86 Tryd.underlying4 e4 e86 d2
 have z3 : c3.toList = gtab3 := jm (bs := [false, true, true, false, false, false, false]) Tryd.underlying86 Tryd.underlying4 e4 e86 d3
 have z1 : c1.toList = gtab1 := zdo (a0 := [false, false, false, false, false, false, false]) (a1 := [false, true, true, false, false, false, true]) (a2 := [false, true, false, false, false, false, true]) (a3 := [false, true, true, true, true, true, true]) (a4 := [false, true, true, true, true, true, true]) (a5 := [false, true, true, true, true, true, true]) (a6 := [false, false, false, true, true, true, false]) Tryd.underlying94 Tryd.underlying86 Tryd.underlying4 e4 e86 e94 d1
 have w0 := zbc _ m0 v0
 have w1 := zbc _ m1 v1
 have w2 := zbc _ m2 v2
 have w3 := zbc _ m3 v3
 rw [<- z0, <- z1, <- z2, <- z3]
 exact ⟨w0, w1, w2, w3⟩
theorem zja {W : World} {g : Nat} {cs : List Value} (h1 : ∀ x ∈ cs, ∃ b, x = Value.bool b) (hw : ∃ t z, W.heap[g]? = some (.cells cs.toArray t z)) : (∀ j, (cs.getD j (.bool true)).oneCell' = true /\ (j < cs.length -> zh6 W g j = some (cs.getD j (.bool true)))) /\ (∃ (t : TypeId) (z : Nat × Nat), W.heap[g]? = some (.cells cs.toArray t z)) /\ some g ∉ ([] : List (Option Nat)) /\ ¬ InT zbe [] g := by
 refine ⟨λ j => ⟨?_, λ hj => ?_⟩, hw, λ h => (by cases h), λ ⟨t, h, _⟩ => (by cases h)⟩
 ·by_cases hj : j < cs.length
  ·rw [List.getD_eq_getElem?_getD, List.getElem?_eq_getElem hj]
   obtain ⟨b, hb⟩ := h1 _ (List.getElem_mem hj)
   rw [Option.getD_some, hb]; rfl
  ·rw [List.getD_eq_getElem?_getD, List.getElem?_eq_none (by simpa using hj)]
   rfl
 ·obtain ⟨t, z, hw⟩ := hw
  show W.cell? ⟨g, j, none⟩ = _
  rw [List.getD_eq_getElem?_getD, List.getElem?_eq_getElem hj, Option.getD_some]
  simp [World.cell?, hw, hj]
theorem zEi {W : World} (h : laidMetH Tryd.prog zBI W) : zua (zh6 W) W [] (InT zbe []) := by
 obtain ⟨w0, w1, w2, w3⟩ := zzl h
 have hb : ∀ (l : List Bool), ∀ x ∈ l.map Value.bool, ∃ b, x = Value.bool b := λ l x hx => by
  obtain ⟨b, _, e⟩ := List.mem_map.1 hx
  exact ⟨b, e.symm⟩
 intro g cs hg
 unfold glb at hg
 split at hg
 ·cases hg; exact zja (hb _) w0
 ·cases hg; exact zja (hb _) w1
 ·cases hg; exact zja (hb _) w2
 ·cases hg; exact zja (hb _) w3
 ·cases hg
end Go.Proofs.YthdgnfcbehcplaaDoor
end
section
namespace Go.Proofs.YthdgnfcbehcplaaDoor
theorem zqc (A : List RT0) (hA : A.length <= 100) (X Y Z W : List (List AV)) (t : Int) : ∀ (d k f : Nat) (w : List Bool), k + d = A.length -> d < f -> w.length = A.length -> (∀ j, j < k -> gb w j = true) ->
  ∃ w', (jE 600).L f (A.map zB, X, Y, t, A.length, (A.length : Int), (k : Int), Z, W, bc w) = some (A.map zB, X, Y, t, A.length, Z, W, bc w') /\ w'.length = A.length /\ ∀ j, j < A.length -> gb w' j = true := by
 intro d
 induction d with
 | zero =>
  intro k f w hk hf hw hg
  obtain ⟨f, rfl⟩ := pS hf
  refine ⟨w, ?_, hw, λ j hj => hg j (by omega)⟩
  show (jE 600).b _ _ ((jE 600).L f) some = _
  have e2 : decide ((k : Int) < (A.length : Int)) = false := dF (by omega)
  simp only [jE]
  simp only [e2, zH]
 | succ d ih =>
  intro k f w hk hf hw hg
  obtain ⟨f, rfl⟩ := pS hf
  have hkw : k < w.length := by omega
  obtain ⟨w', r1, r2⟩ := ih (k + 1) f (w.set k true) (by omega) (by omega) (by simpa using hw) (λ j hj => by
   rw [zi9 hkw]
   split
   ·rfl
   ·exact hg j (by omega))
  refine ⟨w', ?_, r2⟩
  show (jE 600).b _ _ ((jE 600).L f) some = _
  generalize (jE 600).L f = Lf at r1 |-
  have e2 : decide ((k : Int) < (A.length : Int)) = true := dT (by omega)
  have h0 : 0 <= (k : Int) := by omega
  have h1 : (k : Int) < (A.length : Int) := by omega
  have b1 : k + 1 <= (bc w).length := by rw [zgG]; omega
  simp only [jE]
  simp only [e2, h0, h1, decide_true, and_self, if_true, Int.toNat_natCast, Nat.zero_add, Nat.mul_one, b1, zgH, zH, zp (show k < 1000000 by omega)]
  exact r1
theorem zpB {T : Int} {m e : Nat} {C : List (List RT7)} (hC : CG T m e C) (he : e <= 500) (hm : m <= 100) (A : List RT0) (hA : A.length <= 100) (L : List Int) (hL : L.length = C.length) (hrg : Rg A.length L) (X W : List (List AV)) (t : Int) : ∀ (d k f : Nat) (w : List Bool), k + d = C.length -> d < f -> w.length = A.length ->
  ∃ w', (ZF 600).L f (A.map zB, X, zt L, t, A.length, (C.length : Int), (k : Int), zO C, W, bc w) = some (.inr (A.map zB, X, t, A.length, W, bc w')) /\ w'.length = A.length /\ ∀ j, j < A.length -> (gb w' j = true ↔ gb w j = true /\ ¬ ∃ i, k <= i /\ i < C.length /\ gi L i = (j : Int) /\ ¬ opn C i) := by
 have hle := hC.le
 intro d
 induction d with
 | zero =>
  intro k f w hk hf hw
  obtain ⟨f, rfl⟩ := pS hf
  refine ⟨w, ?_, hw, λ j hj => ⟨λ h => ⟨h, λ ⟨i, h1, h2, _⟩ => by omega⟩, λ h => h.1⟩⟩
  show (ZF 600).b _ _ ((ZF 600).L f) some = _
  have e2 : decide ((k : Int) < (C.length : Int)) = false := dF (by omega)
  simp only [ZF]
  simp only [e2, zH]
 | succ d ih =>
  intro k f w hk hf hw
  obtain ⟨f, rfl⟩ := pS hf
  have hkl : k < C.length := by omega
  have hkL : k < L.length := by omega
  have hx := hC.xs k hkl
  have hxl := hx.le
  have hla := za3 C[k] hx.ne (by omega)
  obtain ⟨u, hu⟩ : ∃ u, u = C[k].getLast hx.ne := ⟨_, rfl⟩
  rw [<- hu] at hla
  have hop := zg8 600 u
  have hopn : opn C k ↔ ZA (kdV u) = true := by
   unfold opn
   rw [List.getElem?_eq_getElem hkl]
   constructor
   ·rintro ⟨x, u', h1, h2, h3⟩
    cases h1
    rw [zb9 hx.ne, <- hu] at h2
    rw [Option.some.inj h2]; exact h3
   ·intro h
    exact ⟨_, u, rfl, by rw [zb9 hx.ne, <- hu], h⟩
  have hr := hrg _ (List.getElem_mem hkL)
  have hgk : gi L k = L[k] := zea hkL
  have e2 : decide ((k : Int) < (C.length : Int)) = true := dT (by omega)
  have h0 : 0 <= (k : Int) := by omega
  have g1 : (zt L)[k]? = some [I L[k]] := Ju L k hkL
  have g2 : ([I L[k]] : List AV)[0]? = some (AV.v (.int .i64 L[k])) := rfl
  have c1 : decide (L[k] < -1) = false := dF (by omega)
  have c2 : decide (L[k] >= (A.length : Int)) = false := dF (by omega)
  have n1 := zp (show k < 1000000 by omega)
  have hkeep : ¬ (0 <= L[k] /\ ¬ opn C k) -> ∀ (w' : List Bool), (∀ j, j < A.length -> (gb w' j = true ↔ gb w j = true /\ ¬ ∃ i, k + 1 <= i /\ i < C.length /\ gi L i = (j : Int) /\ ¬ opn C i)) -> ∀ j, j < A.length -> (gb w' j = true ↔ gb w j = true /\ ¬ ∃ i, k <= i /\ i < C.length /\ gi L i = (j : Int) /\ ¬ opn C i) := λ hc w' h j hj => by
   rw [h j hj]
   refine ⟨λ ⟨a, b⟩ => ⟨a, λ ⟨i, h1, h2, h3, h4⟩ => ?_⟩, λ ⟨a, b⟩ => ⟨a, λ ⟨i, h1, h2⟩ => b ⟨i, by omega, h2⟩⟩⟩
   by_cases ei : i = k
   ·subst ei; exact hc ⟨by omega, h4⟩
   ·exact b ⟨i, by omega, h2, h3, h4⟩
  by_cases hk0 : 0 <= L[k]
  ·have c3 : decide (L[k] >= 0) = true := dT (by omega)
   by_cases ho : ZA (kdV u) = true
   ·rw [ho] at hop
    obtain ⟨w', r1, r2, r3⟩ := ih (k + 1) f w (by omega) (by omega) hw
    refine ⟨w', ?_, r2, hkeep (λ h => h.2 (hopn.2 ho)) w' r3⟩
    show (ZF 600).b _ _ ((ZF 600).L f) some = _
    generalize (ZF 600).L f = Lf at r1 |-
    simp only [ZF]
    simp only [e2, h0, if_true, Int.toNat_natCast, g1, g2, List.length_map, c1, c2, c3, zS C k hkl, rd6, hla, hop, Bool.not_true, zH, n1]
    exact r1
   ·have ho' : ZA (kdV u) = false := by simpa using ho
    rw [ho'] at hop
    have hzw : L[k].toNat < w.length := by omega
    obtain ⟨w', r1, r2, r3⟩ := ih (k + 1) f (w.set L[k].toNat false) (by omega) (by omega) (by simpa using hw)
    refine ⟨w', ?_, r2, λ j hj => ?_⟩
    ·show (ZF 600).b _ _ ((ZF 600).L f) some = _
     generalize (ZF 600).L f = Lf at r1 |-
     have b1 : L[k].toNat + 1 <= (bc w).length := by rw [zgG]; omega
     have b2 : 0 <= L[k] /\ L[k] < (A.length : Int) := ⟨hk0, hr.2⟩
     simp only [ZF]
     simp only [e2, h0, if_true, Int.toNat_natCast, g1, g2, List.length_map, c1, c2, c3, zS C k hkl, rd6, hla, hop, Bool.not_false]
     rw [if_pos b2]
     simp only [Nat.zero_add, Nat.mul_one, b1, if_true, zgH, zH, n1]
     exact r1
    ·rw [r3 j hj, zi9 hzw]
     by_cases ej : j = L[k].toNat
     ·rw [if_pos ej]
      refine ⟨λ h => (by cases h.1), λ h => absurd ⟨k, Nat.le_refl _, hkl, by rw [hgk]; omega, λ h => ho (hopn.1 h)⟩ h.2⟩
     ·rw [if_neg ej]
      refine ⟨λ ⟨a, b⟩ => ⟨a, λ ⟨i, h1, h2, h3, h4⟩ => ?_⟩, λ ⟨a, b⟩ => ⟨a, λ ⟨i, h1, h2⟩ => b ⟨i, by omega, h2⟩⟩⟩
      by_cases ei : i = k
      ·subst ei; rw [hgk] at h3; omega
      ·exact b ⟨i, by omega, h2, h3, h4⟩
  ·have c3 : decide (L[k] >= 0) = false := dF (by omega)
   obtain ⟨w', r1, r2, r3⟩ := ih (k + 1) f w (by omega) (by omega) hw
   refine ⟨w', ?_, r2, hkeep (λ h => hk0 h.1) w' r3⟩
   show (ZF 600).b _ _ ((ZF 600).L f) some = _
   generalize (ZF 600).L f = Lf at r1 |-
   simp only [ZF]
   simp only [e2, h0, if_true, Int.toNat_natCast, g1, g2, List.length_map, c1, c2, c3, zH, n1]
   exact r1
def cnt (p : Nat -> Bool) (k d : Nat) : Nat := ((List.range' k d).filter p).length
theorem ziV (p : Nat -> Bool) (k d : Nat) : cnt p k (d + 1) = (if p k = true then 1 else 0) + cnt p (k + 1) d := by
 unfold cnt
 rw [List.range'_succ, List.filter_cons]
 split <;> simp <;> omega
theorem zBr (p : Nat -> Bool) (k d : Nat) : cnt p k d <= d := by
 unfold cnt
 have := List.length_filter_le p (List.range' k d)
 simpa using this
theorem zzb {a e : RT0} (ha : zaq a) (he : zaq e) (h : a = e) : zqH 600 (a, e) = some true := by
 subst h
 obtain ⟨b, h1, h2⟩ := zjr a a ha ha
 rw [h2.2 rfl] at h1
 have ee := JN (nmE a)
 simp only [eqP] at ee
 simp only [zqH, FSpec.d, zjT]
 simp only [ee]
 have h1' : zm3 600 (zC a, zC a) = some true := h1
 simp only [h1']
theorem zlp {T : Int} {m e : Nat} {D : List (List RT7)} (hD : CG T m e D) (he : e <= 500) (hm : m <= 100) (A : List RT0) (hA : A.length <= 100) (hd : Dis A) (hpk : ∀ a ∈ A, zaq a) (w : List Bool) (hw : w.length = A.length) (X : List (List AV)) (t : Int) (hs : ∀ i, i < D.length -> osh D i = true -> ∃ j, ShE D A i j /\ gb w j = true) : ∀ (d k f : Nat) (c : Nat), k + d = D.length -> d < f -> c <= k ->
  (ZY 600).L f (A.map zB, X, zO D, t, A.length, (c : Int), (D.length : Int), (k : Int), zO D, bc w) = some (.inr (X, t, A.length, ((c + cnt (osh D) k d : Nat) : Int), zO D, bc w)) := by
 have hle := hD.le
 intro d
 induction d with
 | zero =>
  intro k f c hk hf hc
  obtain ⟨f, rfl⟩ := pS hf
  show (ZY 600).b _ _ ((ZY 600).L f) some = _
  have e2 : decide ((k : Int) < (D.length : Int)) = false := dF (by omega)
  simp only [ZY]
  simp only [e2, zH]
  rfl
 | succ d ih =>
  intro k f c hk hf hc
  obtain ⟨f, rfl⟩ := pS hf
  have hkl : k < D.length := by omega
  have hx := hD.xs k hkl
  have hxl := hx.le
  have hla := za3 D[k] hx.ne (by omega)
  obtain ⟨u, hu⟩ : ∃ u, u = D[k].getLast hx.ne := ⟨_, rfl⟩
  have hLast := hx.last
  rw [<- hu] at hla hLast
  have hq : (D[k]?).bind List.getLast? = some u := by
   rw [List.getElem?_eq_getElem hkl]
   show D[k].getLast? = some u
   rw [zb9 hx.ne, <- hu]
  have hop := zg8 600 u
  have hsh := zpZ 600 u
  have hosh : osh D k = (ZA (kdV u) && jN (kdV u)) := by unfold osh; rw [hq]
  have e2 : decide ((k : Int) < (D.length : Int)) = true := dT (by omega)
  have h0 : 0 <= (k : Int) := by omega
  have n1 := zp (show k < 1000000 by omega)
  rw [ziV]
  by_cases hos : osh D k = true
  ·rw [if_pos hos]
   have hos' := hos
   rw [hosh, Bool.and_eq_true] at hos'
   rw [hos'.1] at hop
   rw [hos'.2] at hsh
   obtain ⟨j, ⟨hj, hev⟩, hwj⟩ := hs k hkl hos
   rw [zfG, hq] at hev
   have hev' : evV u = A[j] := Option.some.inj hev
   obtain ⟨z, i1, i2⟩ := zpq A (nmE (evV u)) (by omega)
   have hz : z = (j : Int) := by
    rcases i2 with ⟨_, h⟩ | ⟨j', e, h1, _, h2, _⟩
    ·exact absurd (by rw [hev']) (h j hj (Nat.zero_le _))
    ·rw [hev'] at h2
     rw [e, hd.eq h1 hj h2]
   rw [hz] at i1
   replace i1 : zjR 600 (A.map zB, zfp u) = some (j : Int) := i1
   have hjw : j < w.length := by omega
   have hwj' : w[j] = true := by rw [<- zuH hjw]; exact hwj
   have sv : zqH 600 (A[j], zx u) = some true := zzb (hpk _ (List.getElem_mem _)) hLast.ev.pk hev'.symm
   have c1 : decide ((j : Int) < 0) = false := dF (by omega)
   have c2 : 0 <= (j : Int) := by omega
   have c3 : (j : Int) < (A.length : Int) := by omega
   have n2 : i64 ((c : Int) + 1) = ((c + 1 : Nat) : Int) := zp (by omega)
   have r1 := ih (k + 1) f (c + 1) (by omega) (by omega) (by omega)
   rw [show c + 1 + cnt (osh D) (k + 1) d = c + (1 + cnt (osh D) (k + 1) d) by omega] at r1
   show (ZY 600).b _ _ ((ZY 600).L f) some = _
   generalize (ZY 600).L f = Lf at r1 |-
   simp only [ZY]
   simp only [e2, h0, if_true, Int.toNat_natCast, zS D k hkl, rd6, hla, hop, hsh, Bool.not_true, i1, c1, c2, c3, decide_false, and_self, Nat.zero_add, Nat.mul_one, J0 w j hjw, hwj', zcm A j hj, ZD, sv, zH, n1, n2]
   exact r1
  ·rw [if_neg hos]
   have r1 := ih (k + 1) f c (by omega) (by omega) (by omega)
   rw [show c + cnt (osh D) (k + 1) d = c + (0 + cnt (osh D) (k + 1) d) by omega] at r1
   show (ZY 600).b _ _ ((ZY 600).L f) some = _
   generalize (ZY 600).L f = Lf at r1 |-
   simp only [ZY]
   cases ho : ZA (kdV u) with
   | false =>
    rw [ho] at hop
    simp only [e2, h0, if_true, Int.toNat_natCast, zS D k hkl, rd6, hla, hop, Bool.not_false, zH, n1]
    exact r1
   | true =>
    rw [ho] at hop
    have hs2 : jN (kdV u) = false := by
     cases hc2 : jN (kdV u) with
     | false => rfl
     | true => rw [hosh, ho, hc2] at hos; exact absurd rfl hos
    rw [hs2] at hsh
    simp only [e2, h0, if_true, Int.toNat_natCast, zS D k hkl, rd6, hla, hop, Bool.not_true, hsh, Bool.not_false, zH, n1]
    exact r1
theorem zpx (w : List Bool) (hw : w.length <= 100) (X Y : List (List AV)) (t : Int) : ∀ (d k f c : Nat), k + d = w.length -> d < f -> cnt (gb w) k d <= c -> c <= 1000 ->
  (ZZ 600).L f (X, t, w.length, (c : Int), (w.length : Int), (k : Int), Y, bc w) = some (X, t, ((c - cnt (gb w) k d : Nat) : Int), Y) := by
 intro d
 induction d with
 | zero =>
  intro k f c hk hf hc hc'
  obtain ⟨f, rfl⟩ := pS hf
  show (ZZ 600).b _ _ ((ZZ 600).L f) some = _
  have e2 : decide ((k : Int) < (w.length : Int)) = false := dF (by omega)
  simp only [ZZ]
  simp only [e2]
  rfl
 | succ d ih =>
  intro k f c hk hf hc hc'
  obtain ⟨f, rfl⟩ := pS hf
  have hkw : k < w.length := by omega
  have e2 : decide ((k : Int) < (w.length : Int)) = true := dT (by omega)
  have h0 : 0 <= (k : Int) := by omega
  have h1 : (k : Int) < (w.length : Int) := by omega
  have n1 := zp (show k < 1000000 by omega)
  rw [ziV, zuH hkw] at hc |-
  cases hb : w[k] with
  | true =>
   rw [hb, if_pos rfl] at hc
   rw [if_pos rfl]
   have r1 := ih (k + 1) f (c - 1) (by omega) (by omega) (by omega) (by omega)
   rw [show c - 1 - cnt (gb w) (k + 1) d = c - (1 + cnt (gb w) (k + 1) d) by omega] at r1
   have n2 : i64 ((c : Int) - 1) = ((c - 1 : Nat) : Int) := by rw [Zu (by omega)]; omega
   show (ZZ 600).b _ _ ((ZZ 600).L f) some = _
   generalize (ZZ 600).L f = Lf at r1 |-
   simp only [ZZ]
   simp only [e2, h0, h1, decide_true, and_self, if_true, Int.toNat_natCast, Nat.zero_add, Nat.mul_one, J0 w k hkw, hb, zH, n1, n2]
   exact r1
  | false =>
   rw [hb, if_neg (by decide)] at hc
   rw [if_neg (by decide)]
   have r1 := ih (k + 1) f c (by omega) (by omega) (by omega) (by omega)
   rw [show c - cnt (gb w) (k + 1) d = c - (0 + cnt (gb w) (k + 1) d) by omega] at r1
   show (ZZ 600).b _ _ ((ZZ 600).L f) some = _
   generalize (ZZ 600).L f = Lf at r1 |-
   simp only [ZZ]
   simp only [e2, h0, h1, decide_true, and_self, if_true, Int.toNat_natCast, Nat.zero_add, Nat.mul_one, J0 w k hkw, hb, zH, n1]
   rw [Nat.zero_add] at r1
   exact (if_pos trivial).trans r1
theorem zus {T : Int} {m e : Nat} {D : List (List RT7)} (hD : CG T m e D) (he : e <= 500) (hm : m <= 100) (t : Int) (H : List Int) (hH : ChG D t H) (hl : H.length <= 500) (n : Int) : ∀ (d k f : Nat), k + d = H.length -> d < f ->
  (jF 600).L f (zt H, zt H, t, n, (H.length : Int), (k : Int), zO D) = some (.inr n) := by
 have hle := hD.le
 intro d
 induction d with
 | zero =>
  intro k f hk hf
  obtain ⟨f, rfl⟩ := pS hf
  show (jF 600).b _ _ ((jF 600).L f) some = _
  have e2 : decide ((k : Int) < (H.length : Int)) = false := dF (by omega)
  simp only [jF]
  simp only [e2]
 | succ d ih =>
  intro k f hk hf
  obtain ⟨f, rfl⟩ := pS hf
  have hkl : k < H.length := by omega
  have r1 := ih (k + 1) f (by omega) (by omega)
  obtain ⟨i, hi, hil, u, hu, hat⟩ := hH.at_ H[k] (List.getElem_mem _)
  have hx := hD.xs i hil
  have hxl := hx.le
  have hla := za3 D[i] hx.ne (by omega)
  have hul : D[i].getLast hx.ne = u := by
   rw [List.getElem?_eq_getElem hil] at hu
   have hu' : D[i].getLast? = some u := hu
   rw [zb9 hx.ne] at hu'
   exact Option.some.inj hu'
  rw [hul] at hla
  have e2 : decide ((k : Int) < (H.length : Int)) = true := dT (by omega)
  have h0 : 0 <= (k : Int) := by omega
  have hi0 : 0 <= (i : Int) := by omega
  have g1 : (zt H)[k]? = some [I H[k]] := Ju H k hkl
  have g2 : ([I H[k]] : List AV)[0]? = some (AV.v (.int .i64 (i : Int))) := by rw [hi]; rfl
  have c1 : decide ((i : Int) < 0) = false := dF (by omega)
  have c2 : decide ((i : Int) >= (D.length : Int)) = false := dF (by omega)
  have c3 : (u.2.1 != t) = false := by simp only [atV] at hat; simp [hat]
  have n1 := zp (show k < 1000000 by omega)
  show (jF 600).b _ _ ((jF 600).L f) some = _
  generalize (jF 600).L f = Lf at r1 |-
  simp only [jF]
  by_cases hk0 : k = 0
  ·have c4 : decide ((k : Int) > 0) = false := dF (by omega)
   simp only [e2, h0, hi0, if_true, Int.toNat_natCast, g1, g2, c1, zT, c2, c4, zS D i hil, rd6, hla, c3, n1]
   exact r1
  ·have c4 : decide ((k : Int) > 0) = true := dT (by omega)
   obtain ⟨k', rfl⟩ : ∃ k', k = k' + 1 := ⟨k - 1, by omega⟩
   have d7 : i64 (((k' + 1 : Nat) : Int) - 1) = (k' : Int) := by rw [Zu (by omega)]; omega
   have h0' : 0 <= (k' : Int) := by omega
   have hlt := List.pairwise_iff_getElem.1 hH.asc k' (k' + 1) (by omega) hkl (by omega)
   have g3 : (zt H)[k']? = some [I H[k']] := Ju H k' (by omega)
   have g4 : ([I H[k']] : List AV)[0]? = some (AV.v (.int .i64 H[k'])) := rfl
   have c5 : decide (H[k'] >= (i : Int)) = false := dF (by omega)
   simp only [e2, h0, hi0, if_true, Int.toNat_natCast, g1, g2, c1, zT, c2, c4, d7, h0', g3, g4, c5, zS D i hil, rd6, hla, c3, n1]
   exact r1
theorem zvf (xs : List Int) : zEr 600 (zt xs) = some true := by
 obtain ⟨n1, D0⟩ := zBP 600 xs
 obtain ⟨a, p1, g1, m1, D1⟩ := zec 600 (n := 8) (by omega) D0
 obtain ⟨k, rfl⟩ : ∃ k : Nat, a = (k : Int) := ⟨a.toNat, by omega⟩
 obtain ⟨C, t, p2, g2, D2, t1, t2, hC⟩ := zuJ D1 k (by omega)
 obtain ⟨A, p3, g3, l3, v3, D3⟩ := zpb 5 (by omega) D2
 replace g3 : zwK 600 (5, zt (xs.take 2000), p2) = some (A.map zB, zt (xs.take 2000), p3) := g3
 have hd : Dis A := v3.names
 have hpk : ∀ a ∈ A, zaq a := λ a ha => (v3.evn (by omega) a ha).pk
 obtain ⟨L, f1, f2, f3, f4⟩ := zpO hC (by omega) v3 (by omega) (by omega) (Int.le_refl t) (by omega) (by omega)
 obtain ⟨hl, hrg, hinj⟩ := f2.inv
 have hP := zBY (t := t) hC hd hl
 have hH := zyq hP hl
 obtain ⟨D, hD⟩ : ∃ D, D = zcp C A L t := ⟨_, rfl⟩
 obtain ⟨H, hHd⟩ : ∃ H, H = zBn C A L t := ⟨_, rfl⟩
 rw [<- hD] at hP f3 f4 hH
 rw [<- hHd] at f3 hH
 have hDl := f4.le
 have hCl := hC.le
 have hV := zoV (by omega) (by omega) (by omega) f4
 have hlo : ∀ i, -1 <= gi L i /\ gi L i < A.length := λ i => by
  by_cases h : i < L.length
  ·rw [zea h]; exact hrg _ (List.getElem_mem _)
  ·rw [zBB (by omega)]; omega
 have hin : ∀ i i', i < C.length -> i' < C.length -> 0 <= gi L i -> gi L i = gi L i' -> i = i' := λ i i' h h' h0 e => by
  rw [zea (by omega)] at h0
  rw [zea (by omega), zea (by omega)] at e
  exact hinj i i' (by omega) (by omega) h0 e
 obtain ⟨s1, s2, s3⟩ := zEq hd hP hl hlo hin
 obtain ⟨w0, b1, b2, b3⟩ := zqc A (by omega) (zt H) (zt L) (zO C) (zO D) t A.length 0 600 (List.replicate A.length false) (by omega) (by omega) (by simp) (λ j hj => by omega)
 replace b1 : (jE 600).L 600 (A.map zB, zt H, zt L, t, A.length, (A.length : Int), 0, zO C, zO D, bc (List.replicate A.length false)) = _ := b1
 obtain ⟨w, c1, c2, c3⟩ := zpB hC (by omega) (by omega) A (by omega) L hl hrg (zt H) (zO D) t C.length 0 600 w0 (by omega) (by omega) b2
 replace c1 : (ZF 600).L 600 (A.map zB, zt H, zt L, t, A.length, (C.length : Int), 0, zO C, zO D, bc w0) = _ := c1
 have hw : ∀ j, j < A.length -> (gb w j = true ↔ Wan C L j) := λ j hj => by
  rw [c3 j hj]
  exact ⟨λ h ⟨i, q1, q2⟩ => h.2 ⟨i, Nat.zero_le _, q1, q2⟩, λ h => ⟨b3 j hj, λ ⟨i, _, q1, q2⟩ => h ⟨i, q1, q2⟩⟩⟩
 have d1 := zlp f4 (by omega) (by omega) A (by omega) hd hpk w c2 (zt H) t (λ i hi ho => by
  obtain ⟨j, q1, q2⟩ := s1 i hi ho
  exact ⟨j, q1, (hw j q1.1).2 q2⟩) D.length 0 600 0 (by omega) (by omega) (by omega)
 replace d1 : (ZY 600).L 600 (A.map zB, zt H, zO D, t, A.length, 0, (D.length : Int), 0, zO D, bc w) = _ := d1
 have hcnt : cnt (osh D) 0 D.length = cnt (gb w) 0 A.length := by
  unfold cnt
  refine zpD _ _ (λ i j => i < D.length /\ osh D i = true /\ ShE D A i j) ((List.nodup_range').filter _) ((List.nodup_range').filter _) (λ i hi => ?_) (λ j hj => ?_) (λ i i' j h h' => s3 i i' j h.1 h'.1 h.2.1 h'.2.1 h.2.2 h'.2.2) (λ i j j' h h' => ?_)
  ·rw [List.mem_filter, List.mem_range'_1] at hi
   obtain ⟨j, q1, q2⟩ := s1 i (by omega) hi.2
   exact ⟨j, by rw [List.mem_filter, List.mem_range'_1]; exact ⟨⟨Nat.zero_le _, by have := q1.1; omega⟩, (hw j q1.1).2 q2⟩, by omega, hi.2, q1⟩
  ·rw [List.mem_filter, List.mem_range'_1] at hj
   obtain ⟨i, q1, q2, q3⟩ := s2 j (by omega) ((hw j (by omega)).1 hj.2)
   exact ⟨i, by rw [List.mem_filter, List.mem_range'_1]; exact ⟨⟨Nat.zero_le _, by omega⟩, q2⟩, q1, q2, q3⟩
  ·obtain ⟨_, _, hj, he⟩ := h
   obtain ⟨_, _, hj', he'⟩ := h'
   rw [he] at he'
   exact hd.eq hj hj' (by rw [Option.some.inj he'])
 have hcl := zBr (osh D) 0 D.length
 have e1 := zpx w (by omega) (zt H) (zO D) t A.length 0 600 (cnt (osh D) 0 D.length) (by omega) (by omega) (by omega) (by omega)
 rw [c2, hcnt, Nat.sub_self] at e1
 replace e1 : (ZZ 600).L 600 (zt H, t, A.length, ((cnt (gb w) 0 A.length : Nat) : Int), (A.length : Int), 0, zO D, bc w) = some (zt H, t, 0, zO D) := e1
 have hHl : H.length <= 500 := by
  rw [hHd]
  have h1 := zhM A t C L 0
  have h2 := zfR t A (tkF (List.replicate A.length false) L)
  unfold zBn
  simp
  omega
 have h72 := zus f4 (by omega) (by omega) t H hH hHl 0 H.length 0 600 (by omega) (by omega)
 replace h72 : (jF 600).L 600 (zt H, zt H, t, 0, (H.length : Int), 0, zO D) = _ := h72
 have z1 : ((0 : Int) != 0) = false := by decide
 have z2 : ((0 : Int) == 0) = true := by decide
 have z3 : ((L.length : Int) != (C.length : Int)) = false := by rw [hl]; simp
 have z4 : (0 <= (A.length : Int) /\ (A.length : Int) <= (A.length : Int) /\ (A.length : Int).toNat * 1 <= zg) := by unfold zg; omega
 rw [Nat.zero_add, hcnt] at d1
 simp only [zEr, FSpec.d, zzn]
 simp only [n1, f8a, g1, f7a, g2, f9a, g3, f3, f1, z1, je, zT, z3, hV, Bool.not_true, List.length_map]
 rw [if_pos z4]
 simp only [Int.toNat_natCast, zo3, zH, zv3, b1, je, hl, zv4, c1, zv5, zT, d1, zv6, e1, zv7, h72, z2, zuj]
end Go.Proofs.YthdgnfcbehcplaaDoor
end
section
namespace Go.Proofs.YthdgnfcbehcplaaDoor
open Go.RowKit
theorem J1 (a : Option Addr) (len cap : Nat) (W : World) (w : ziJ W (.slice a len cap)) (hgl : zua (zh6 W) W [] (InT zbe [])) : Calls Tryd.prog 4 #[.slice a len cap] W λ e w' => e = .returned (.bool true) /\ Below W.heap.size W w' := by
 obtain ⟨xs, hb, hl, hr⟩ := w
 refine CallOk.calls ((F4_e 600).ok (zt xs) true (zvf xs)) W _ rfl (λ i h h' => ?_) hgl
 obtain rfl : i = 0 := by have : i < 1 := h'; omega
 exact hr _ _
end Go.Proofs.YthdgnfcbehcplaaDoor
end
