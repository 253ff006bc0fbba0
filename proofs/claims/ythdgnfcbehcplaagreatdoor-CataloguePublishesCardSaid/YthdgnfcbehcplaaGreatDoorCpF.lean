/- Several texts as one (written by pack.py). -/
import Derived.Test.YthdgnfcbehcplaaGreatDoorCpE
import Derived.Test.YthdgnfcbehcplaaGreatDoorProg
import Derived.ProofKit
import Derived.OpenShut
import Derived.Deep.Slices
import Derived.ChangeSame
import Derived.Test.YthdgnfcbehcplaaGreatDoorRows
import Derived.LaidMore
import Derived.Lay
import Derived.LaidLaws
import Derived.MakeChecks
import Derived.Stop.LaidErr
import Derived.Lib.LaidTab
set_option linter.unusedVariables false
set_option linter.unusedSimpArgs false
set_option linter.unnecessarySimpa false
namespace Go.Proofs.YthdgnfcbehcplaaGreatDoor
section
open Classical
theorem jT {l : LSpec} {S W : Type} {n : Nat} (R : Nat -> S -> W -> Prop) (g : Nat -> S -> S) (st : Nat -> S -> W -> l.X) (fin : S -> W -> l.Y) (h0 : ∀ s x, R n s x -> ∀ Lf : l.X -> Option l.Y, l.b (st n s x) l.Y Lf some = some (fin s x)) (hs : ∀ k s x, k < n -> R k s x -> ∀ Lf : l.X -> Option l.Y, ∃ x', R (k + 1) (g k s) x' /\ l.b (st k s x) l.Y Lf some = Lf (st (k + 1) (g k s) x')) : ∀ (d k f : Nat) (s : S) (x : W), k + d = n -> d < f -> R k s x -> ∃ s' x', s' = (List.range' k d).foldl (λ a i => g i a) s /\ R n s' x' /\ l.L f (st k s x) = some (fin s' x')
 | 0, k, f, s, x, hk, hf, hR => by
  obtain ⟨f, rfl⟩ := pS hf
  obtain rfl : k = n := by omega
  exact ⟨s, x, rfl, hR, h0 _ _ hR _⟩
 | d + 1, k, f, s, x, hk, hf, hR => by
  obtain ⟨f, rfl⟩ := pS hf
  obtain ⟨x1, h1, h2⟩ := hs k s x (by omega) hR (l.L f)
  obtain ⟨s', x', e, g1, g2⟩ := jT R g st fin h0 hs d (k + 1) f (g k s) x1 (by omega) (by omega) h1
  exact ⟨s', x', e, g1, h2.trans g2⟩
def lV (C : qC) (i : Nat) : RT7 := (C.getD i []).getLast?.getD (0, 0, nob, 0, zE)
theorem znL {C : qC} {i : Nat} (hi : i < C.length) (h : C[i] ≠ []) : lV C i = C[i].getLast h := by
 unfold lV
 rw [JH _ hi, List.getLast?_eq_some_getLast h]
 rfl
abbrev PS : Type := List Int × qC
noncomputable def zqB (C : qC) (A : List RT0) (t : Int) (L : List Int) (k : Nat) (s : PS) : PS := match zdk A t (lV C k) (L.getD k 0) with
 | some v => (s.1 ++ [(k : Int)], s.2.set k (s.2.getD k [] ++ [v]))
 | none => s
noncomputable def zfy (A : List RT0) (t : Int) (L : List Int) (k : Nat) (s : PS) : PS := if (k : Int) ∈ L then s else (s.1 ++ [(s.2.length : Int)], s.2 ++ [[zhh t (A.getD k zE)]])
noncomputable def zdb (C : qC) (A : List RT0) (t : Int) : PS := (List.range' 0 C.length).foldl (λ s k => zqB C A t (zaq C A) k s) ([], C)
noncomputable def zfB (C : qC) (A : List RT0) (t : Int) : PS := (List.range' 0 A.length).foldl (λ s k => zfy A t (zaq C A) k s) (zdb C A t)
theorem jA (L : List Int) (x : Int) : zg L ++ [[AV.v (.int .i64 x)]] = zg (L ++ [x]) := by simp [zg]
theorem zuS {A : List RT0} {t : Int} {u : RT7} {z : Nat} (ho : JY (kdV u) = true) (hz : z < A.length) (h : jc (kdV u) = true /\ evV u = A[z]) : zdk A t u (z : Int) = none := by
 unfold zdk
 rw [if_pos ho, dif_pos ⟨by omega, by omega⟩]
 simp only [Int.toNat_natCast]
 rw [if_pos h]
theorem znU {A : List RT0} {t : Int} {u : RT7} {z : Nat} (ho : JY (kdV u) = true) (hz : z < A.length) (h : ¬ (jc (kdV u) = true /\ evV u = A[z])) : zdk A t u (z : Int) = some (zhh t A[z]) := by
 unfold zdk
 rw [if_pos ho, dif_pos ⟨by omega, by omega⟩]
 simp only [Int.toNat_natCast]
 rw [if_neg h]
theorem pp35 {A : List RT0} (hA : ∀ a ∈ A, EvG a) {t : Int} {u : RT7} {n0 i0 : Nat} {T : Int} (hu : VG T n0 i0 u) (ho : JY (kdV u) = true) (z : Nat) (hz : z < A.length) (ch fl : List (List AV)) (n off N : Nat) (i lL : Int) (X : List (List AV)) (cs ci : List AV) (hcs : cs.map datF = cs) (hci : ci.map dat0 = ci) (jM : Nat × Nat) :
  (zev 600 (ch, A.map zl, fl, t, n, i, (z : Int), off, lL, i, X, N, u, cs, ci, jM) = some (.inl (ch, A.map zl, fl, t, n, i, (z : Int), off, lL, i, X, N, cs, ci, jM)) /\ zdk A t u (z : Int) = none) \/ (zev 600 (ch, A.map zl, fl, t, n, i, (z : Int), off, lL, i, X, N, u, cs, ci, jM) = some (.inr (ch, A.map zl, fl, t, n, i, (z : Int), off, lL, i, X, N, cs, ci, jM)) /\ zdk A t u (z : Int) = some (zhh t A[z])) := by
 have hu' : ∀ y, (j4 600).b (ch, A.map zl, fl, t, n, i, (z : Int), off, lL, i, X, N, u, cs, ci, jM) _ ((j4 600).L 599) some = y -> zev 600 (ch, A.map zl, fl, t, n, i, (z : Int), off, lL, i, X, N, u, cs, ci, jM) = y := λ y h => h
 have hts := zjj hu.kd
 have q7 : 0 <= u.1 /\ u.1 < 7 := ⟨hu.kd.lt.1, hu.kd.lt.2.1⟩
 have hz0 := nnI z
 simp only [kdV] at hts
 cases hsh : jc u.1 with
 | false =>
  rw [hsh] at hts
  refine .inr ⟨hu' _ ?_, znU ho hz (λ h => by rw [kdV, hsh] at h; cases h.1)⟩
  simp only [j4]
  simp only [q7, and_self, if_true, hts, hcs, hci]
 | true =>
  rw [hsh] at hts
  obtain ⟨b, w1, w2⟩ := ze0 (evV u) A[z] hu.ev.pk (hA _ (List.getElem_mem _)).pk
  replace w1 : zfO 600 (zm u, A[z]) = some b := w1
  cases b with
  | true =>
   refine .inl ⟨hu' _ ?_, zuS ho hz ⟨hsh, w2.1 rfl⟩⟩
   simp only [j4]
   simp only [q7, and_self, if_true, hts, hcs, hci, hz0, Int.toNat_natCast, ze9 A z hz, Zh, w1]
  | false =>
   refine .inr ⟨hu' _ ?_, znU ho hz (λ h => by have := w2.2 h.2; cases this)⟩
   simp only [j4]
   simp only [q7, and_self, if_true, hts, hcs, hci, hz0, Int.toNat_natCast, ze9 A z hz, Zh, w1]
theorem pp33 {A : List RT0} (hA : ∀ a ∈ A, EvG a) {t : Int} {u : RT7} {n0 i0 : Nat} {T : Int} (hu : VG T n0 i0 u) (ho : JY (kdV u) = true) {k : Int} (hk : -1 <= k /\ k < A.length) (ch fl : List (List AV)) (n : Nat) (i : Nat) (lL : Int) (X : List (List AV)) {D : qC} {j : Nat} {cs : List AV} (hF : FC D j cs) (hi : i < D.length) (hj : j <= i) (hl : D[i].length <= 1000) (ci : List AV) (hci : ci.map dat0 = ci) :
  (zdk A t u k = none /\ zeu 600 (ch, A.map zl, fl, t, n, (i : Int), k, i, lL, (i : Int), decide (k >= 0), X, D.length, u, cs, ci, j, D.length) = some (.inl (ch, A.map zl, fl, t, n, (i : Int), i, lL, (i : Int), X, D.length, cs, ci, j, D.length))) \/ (∃ v cs', zdk A t u k = some v /\ FC (D.set i (D[i] ++ [v])) (i + 1) cs' /\ zeu 600 (ch, A.map zl, fl, t, n, (i : Int), k, i, lL, (i : Int), decide (k >= 0), X, D.length, u, cs, ci, j, D.length) = some (.inr (ch, A.map zl, fl, t, n, (i : Int), i, lL, (i : Int), X, D.length, cs', ci, i + 1, D.length))) := by
 have hu' : ∀ y, (jF 600).b (ch, A.map zl, fl, t, n, (i : Int), k, i, lL, (i : Int), decide (k >= 0), X, D.length, u, cs, ci, j, D.length) _ ((jF 600).L 599) some = y -> zeu 600 (ch, A.map zl, fl, t, n, (i : Int), k, i, lL, (i : Int), decide (k >= 0), X, D.length, u, cs, ci, j, D.length) = y := λ y h => h
 obtain ⟨tk, q3, _, q4⟩ := hF.2 i hi
 rw [q4 hj] at q3
 have b2 : i + 1 <= cs.length := by rw [hF.1]; omega
 by_cases hk0 : 0 <= k
 ·obtain ⟨z, rfl⟩ : ∃ z : Nat, k = (z : Int) := ⟨k.toNat, by omega⟩
  have hz : z < A.length := by omega
  have e1 : decide ((z : Int) >= 0) = true := dT (by omega)
  rcases pp35 hA hu ho (t := t) z hz ch fl n i D.length (i : Int) lL X cs ci hF.dF hci (j, D.length) with ⟨p1, p2⟩ | ⟨p1, p2⟩
  ·refine .inl ⟨p2, hu' _ ?_⟩
   simp only [jF]
   simp only [e1, hF.dF, hci, p1]
  ·have hc := Jc (hA A[z] (List.getElem_mem _)).pk
   have b1 : ((D[i].map zo).length + 1) * 288 <= zd := by unfold zd; simp; omega
   refine .inr ⟨zhh t A[z], _, p2, (hF.to hj).set hi (D[i] ++ [zhh t A[z]]) (q := 7040) (by unfold TOB; omega), hu' _ ?_⟩
   simp only [jF]
   simp only [e1, hF.dF, hci, p1, Nat.add_zero, q3, hj, hi, and_self, if_true, hk0, Int.toNat_natCast, ze9 A z hz, Zh, hc, b2, List.length_cons, List.length_nil, Nat.zero_add]
   refine (if_pos b1).trans ?_
   rw [List.map_append]
   rfl
 ·have e1 : decide (k >= 0) = false := dF (by omega)
  by_cases h2 : kdV u = 2
  ·have e2 : (u.1 == 2) = true := by simpa using h2
   refine .inl ⟨?_, hu' _ ?_⟩
   ·unfold zdk
    rw [if_pos ho, dif_neg (λ h => hk0 h.1), if_pos h2]
   ·simp only [jF]
    simp only [e1, e2, hF.dF, hci]
  ·have e2 : (u.1 == 2) = false := by simpa using h2
   have hc : zb6 600 (zm u) = some (evV u) := Jc hu.ev.pk
   have b1 : ((D[i].map zo).length + 1) * 288 <= zd := by unfold zd; simp; omega
   refine .inr ⟨zvC t (evV u), _, ?_, (hF.to hj).set hi (D[i] ++ [zvC t (evV u)]) (q := 4672) (by unfold TOB; omega), hu' _ ?_⟩
   ·unfold zdk
    rw [if_pos ho, dif_neg (λ h => hk0 h.1), if_neg h2]
   ·simp only [jF]
    simp only [e1, e2, hF.dF, hci, Nat.add_zero, q3, hj, hi, and_self, if_true, hc, b2, List.length_cons, List.length_nil, Nat.zero_add]
    refine (if_pos b1).trans ?_
    rw [List.map_append]
    rfl
theorem rd6t (xs : List (List AV)) (t : Option Nat) (r : List AV) : zbr (AV.list 29 xs t :: r) = some (xs, ()) := by
 show dec RK6 _ = _
 simp only [dec, zno, Zf, if_true]
theorem zun {m : Nat} (L : List Int) {x : Int} (hx : -1 <= x /\ x < m) : bk m (L ++ [x]) = if 0 <= x then (bk m L).set x.toNat (AV.v (.bool true)) else bk m L := by
 have hm : ∀ j : Nat, (j : Int) ∈ L ++ [x] ↔ (j : Int) = x \/ (j : Int) ∈ L := λ j => by simp [or_comm]
 split
 ·refine List.ext_getElem (by simp [bk]) λ j h1 h2 => ?_
  rw [List.getElem_set]
  simp only [bk, List.getElem_map, List.getElem_range, hm]
  by_cases h : x.toNat = j
  ·have : (j : Int) = x := by omega
   simp [h, this]
  ·have : ¬ (j : Int) = x := by omega
   simp [h, this]
 ·refine List.ext_getElem (by simp [bk]) λ j h1 h2 => ?_
  have : ¬ (j : Int) = x := by omega
  simp only [bk, List.getElem_map, List.getElem_range, hm, this, false_or]
theorem pp27 (A : List RT0) (t : Int) (u : RT7) {k : Int} (hk : -1 <= k /\ k < A.length) (ch fl : List (List AV)) (i : Nat) (lL : Int) (X : List (List AV)) (N : Nat) (cs : List AV) (hcs : cs.map datF = cs) (L : List Int) (jM : Nat × Nat) :
  zlk 600 (ch, A.map zl, fl, t, A.length, (i : Int), k, i, lL, (i : Int), decide (k >= 0), X, N, u, cs, bk A.length L, jM) = some (ch, A.map zl, fl, t, A.length, (i : Int), k, i, lL, (i : Int), X, N, u, cs, bk A.length (L ++ [k]), jM) := by
 show (zax 600).b _ _ ((zax 600).L 599) some = _
 have hs := zun L hk
 simp only [zax]
 by_cases hk0 : 0 <= k
 ·rw [if_pos hk0] at hs
  have e1 : decide (k >= 0) = true := decide_eq_true (by omega)
  have b1 : k.toNat + 1 <= (bk A.length L).length := by rw [znc]; omega
  have hs' : splice (bk A.length L) k.toNat [AV.v (.bool true)] = bk A.length (L ++ [k]) := hs.symm
  simp only [e1, hk0, hk.2, and_self, if_true, Nat.zero_add, Nat.mul_one, b1, hcs, hs', zD]
  rfl
 ·rw [if_neg hk0] at hs
  have e1 : decide (k >= 0) = false := decide_eq_false (by omega)
  simp only [e1, hcs, hs, zD]
section
variable {C : qC} (hC : CG mxT 100 500 C) (hm : ∀ x ∈ C, x.length < 100) {A : List RT0} (hA : ∀ a ∈ A, EvG a) (t : Int) (L : List Int) (hL : L.length = C.length) (hr : Rg A.length L) (X : List (List AV))
def UpR (C : qC) (k : Nat) (s : PS) (x : List AV × Nat) : Prop := s.2.length = C.length /\ s.1.length <= k /\ x.2 <= k /\ FC s.2 x.2 x.1 /\ ∀ i (h : i < s.2.length) (h' : i < C.length), k <= i -> s.2[i] = C[i]
theorem UpR.same {C : qC} {k : Nat} {s : PS} {x : List AV × Nat} (h : UpR C k s x) : UpR C (k + 1) s x := by
 obtain ⟨h1, h2, h3, h4, h5⟩ := h
 exact ⟨h1, by omega, by omega, h4, λ i h h' hi => h5 i h h' (by omega)⟩
theorem UpR.upd {C : qC} {k : Nat} {s : PS} {x : List AV × Nat} (h : UpR C k s x) {y : List RT7} {cs : List AV} (hF : FC (s.2.set k y) (k + 1) cs) : UpR C (k + 1) (s.1 ++ [(k : Int)], s.2.set k y) (cs, k + 1) := by
 obtain ⟨h1, h2, h3, h4, h5⟩ := h
 exact ⟨by simpa using h1, by simp; omega, Nat.le_refl _, hF, λ i h h' hi => by
  show (s.2.set k y)[i]'_ = _
  rw [List.getElem_set_ne (by omega)]
  exact h5 i (by simpa using h) h' (by omega)⟩
include hC hm hA hL hr
theorem zzM (cs : List AV) (j : Nat) (hF : FC C 0 cs) (e : L = zaq C A) : ∃ x, UpR C C.length (zdb C A t) x /\ zlj 600 ([], A.map zl, zg L, t, A.length, (C.length : Int), 0, X, C.length, cs, bk A.length [], 0, C.length) = some (.inr (zg (zdb C A t).1, A.map zl, t, A.length, X, C.length, x.1, bk A.length L, x.2, C.length)) := by
 have hle := hC.le
 have := jT (l := zaw 600) (S := PS) (W := List AV × Nat) (n := C.length) (UpR C) (λ k s => zqB C A t L k s) (λ k s x => (zg s.1, A.map zl, zg L, t, A.length, (C.length : Int), (k : Int), X, C.length, x.1, bk A.length (L.take k), x.2, C.length)) (λ s x => .inr (zg s.1, A.map zl, t, A.length, X, C.length, x.1, bk A.length L, x.2, C.length)) (λ s x hR Lf => by
  have e2 := ltF C.length C.length (by omega)
  have e3 : L.take C.length = L := List.take_of_length_le (by omega)
  simp only [zaw, e2, zD, hR.2.2.2.1.dF, e3]) (λ k s x hk hR Lf => by
  have hR0 := hR
  obtain ⟨h1, h2, hj, hF, h5⟩ := hR
  have hkL : k < L.length := by omega
  have hkd : k < s.2.length := by omega
  have hDk : s.2[k] = C[k] := h5 k hkd hk (Nat.le_refl _)
  have e2 := ltT k C.length (by omega)
  have h0 := nnI k
  have hk1 : (k : Int) < (C.length : Int) := by omega
  have hx := hC.xs k hk
  have hxl := hm C[k] (List.getElem_mem _)
  have hla := zi1 C[k] hx.ne (by omega)
  have hlV := znL hk hx.ne
  have hLast := hx.last
  obtain ⟨u, hu⟩ : ∃ u, u = C[k].getLast hx.ne := ⟨_, rfl⟩
  rw [<- hu] at hla hlV hLast
  have hop := zzD hLast.kd
  simp only [kdV] at hop
  have hrk := hr _ (List.getElem_mem hkL)
  have a27 := pp27 A t u hrk (zg s.1) (zg L) k (C.length : Int) X C.length x.1 hF.dF (L.take k) (x.2, C.length)
  rw [zak L hkL] at a27
  have n1 := Zk k (by omega)
  have g1 : (zg L)[k]? = some [I L[k]] := jB L k hkL
  have g2 : ([I L[k]] : List AV)[0]? = some (AV.v (.int .i64 L[k])) := rfl
  obtain ⟨tok, q3, _, q4⟩ := hF.2 k hkd
  rw [hDk] at q3
  have hkc : k < x.1.length := by rw [hF.1]; omega
  have g3 : zbr (x.1.drop k) = some (C[k].map zo, ()) := by
   rw [List.drop_eq_getElem_cons hkc]
   rw [List.getElem?_eq_getElem hkc] at q3
   rw [Option.some.inj q3, rd6t]
  have hg : zqB C A t L k s = match zdk A t u L[k] with | some v => (s.1 ++ [(k : Int)], s.2.set k (s.2.getD k [] ++ [v])) | none => s := by
   unfold zqB
   rw [hlV, JH _ hkL]
  simp only [zaw, e2, h0, hk1, and_self, if_true, Int.toNat_natCast, g1, g2, Nat.zero_add, Nat.mul_one, g3, hla, hF.dF, zD, a27]
  cases hoc : JY u.1 with
  | false =>
   have hnv : zdk A t u L[k] = none := if_neg (by rw [kdV, hoc]; decide)
   rw [hoc] at hop
   rw [hg, hnv]
   refine ⟨x, hR0.same, ?_⟩
   simp only [hop, Bool.not_false, n1, hF.dF, zD]
   rfl
  | true =>
   rw [hoc] at hop
   have h33 := pp33 hA hLast hoc (t := t) hrk (zg s.1) (zg L) A.length k (C.length : Int) X hF hkd hj (by rw [hDk]; omega) (bk A.length (L.take (k + 1))) (zD _ _)
   rw [h1] at h33
   rcases h33 with ⟨hnv, a33⟩ | ⟨v, cs1, hnv, hF1, a33⟩
   ·rw [hg, hnv]
    refine ⟨x, hR0.same, ?_⟩
    simp only [hop, Bool.not_true, a33, n1, hF.dF, zD]
    rfl
   ·rw [hg, hnv]
    obtain ⟨tok2, y3, _, _⟩ := hF1.2 k (by simpa using hkd)
    rw [List.getElem_set_self] at y3
    have l1 : Zf 29 (AV.list 29 ((s.2[k] ++ [v]).map zo) tok2) = some ((s.2[k] ++ [v]).map zo) := by simp [Zf]
    have c1 : decide ((((s.2[k] ++ [v]).map zo).length : Int) > 100) = false := decide_eq_false (by rw [hDk]; simp; omega)
    have b3 : ((zg s.1).length + 1) * 8 <= zd := by rw [zZ]; unfold zd; omega
    have gd : s.2.getD k [] = s.2[k] := JH _ hkd
    refine ⟨(cs1, k + 1), by rw [gd]; exact hR0.upd hF1, ?_⟩
    simp only [hop, Bool.not_true, a33, n1, hF.dF, zD, Nat.add_zero, y3, l1, c1, b3, hF1.dF, List.length_cons, List.length_nil, Nat.zero_add, if_true, jA, gd]
    rfl) C.length 0 600 ([], C) (cs, 0) (by omega) (by omega) ⟨rfl, Nat.le_refl _, Nat.le_refl _, hF, λ i h h' _ => rfl⟩
 obtain ⟨s', x', e1, h1, h2⟩ := this
 subst e
 rw [show s' = zdb C A t from e1] at h1 h2
 exact ⟨x', h1, h2⟩
end
end
section
open Classical
structure PubG (C : qC) (A : List RT0) (t : Int) : Prop where
 cg : CG mxT 100 500 C
 le : C.length <= 63
 vs : ∀ x ∈ C, x.length < 100
 ev : EvsG A
 t0 : 0 <= t /\ t <= 18014398509481984
 at_ : All (AP C t) 0 C.length
theorem zvJ {A : List RT0} {k : Nat} (h : k < A.length) : A.getD k zE = A[k] := JH _ h
theorem zn7 {s : PS} (h : s.2.length <= 500) : decide (((s.2.length : Nat) : Int) > 500) = false /\ s.2.length * 1 <= (jw s.2).length := ⟨decide_eq_false (by omega), by rw [zbC]; omega⟩
section
variable {C : qC} {A : List RT0} (hA : ∀ a ∈ A, EvG a) (hAl : A.length <= 100) (t : Int) (L : List Int) (hL : L.length <= 500) (X : List (List AV))
def AdR (A : List RT0) (k : Nat) (s : PS) (_ : Unit) : Prop := s.2.length + (A.length - k) <= 500 /\ s.1.length <= s.2.length
theorem AdR.next {A : List RT0} {k : Nat} (hk : k < A.length) {s : PS} (h : AdR A k s ()) (t : Int) (L : List Int) : AdR A (k + 1) (zfy A t L k s) () := by
 obtain ⟨h1, h2⟩ := h
 unfold zfy
 split
 ·exact ⟨by omega, h2⟩
 ·exact ⟨by simp; omega, by simp; omega⟩
include hA hAl
theorem zse (s : PS) (hs : AdR A 0 s ()) : zgN 600 (zg s.1, A.map zl, t, A.length, (A.length : Int), 0, X, s.2.length, bk A.length L, jw s.2) = some (zg ((List.range' 0 A.length).foldl (λ s k => zfy A t L k s) s).1, X, ((List.range' 0 A.length).foldl (λ s k => zfy A t L k s) s).2.length, jw ((List.range' 0 A.length).foldl (λ s k => zfy A t L k s) s).2) /\ AdR A A.length ((List.range' 0 A.length).foldl (λ s k => zfy A t L k s) s) () := by
 have := jT (l := zay 600) (S := PS) (W := Unit) (n := A.length) (AdR A) (λ k s => zfy A t L k s) (λ k s _ => (zg s.1, A.map zl, t, A.length, (A.length : Int), (k : Int), X, s.2.length, bk A.length L, jw s.2)) (λ s _ => (zg s.1, X, s.2.length, jw s.2)) (λ s x hR Lf => by
  have e2 := ltF A.length A.length (by omega)
  simp only [zay, e2, Ja]) (λ k s x hk hR Lf => by
  refine ⟨(), hR.next hk t L, ?_⟩
  obtain ⟨h1, h2⟩ := hR
  have e2 := ltT k A.length (by omega)
  have h0 := nnI k
  have h1 : (k : Int) < (A.length : Int) := by omega
  have hc := Jc (hA A[k] (List.getElem_mem _)).pk
  have hb := znb hk L
  simp only [zay, e2, h0, h1, and_self, if_true, Int.toNat_natCast, ze9 A k hk, Zh, Nat.zero_add, Nat.mul_one, hb]
  by_cases hm : (k : Int) ∈ L
  ·have : zfy A t L k s = s := if_pos hm
   rw [this]
   simp only [hm, decide_true, Bool.not_true, zD, Ja, Zk k (by omega)]
   rfl
  ·have : zfy A t L k s = (s.1 ++ [(s.2.length : Int)], s.2 ++ [[zhh t (A.getD k zE)]]) := if_neg hm
   rw [this, zvJ hk]
   have b1 : ((zg s.1).length + 1) * 8 <= zd := by rw [zZ]; unfold zd; omega
   have b2 : (s.2.length <= (jw s.2).length /\ (s.2.length + 1) * 24 <= zd) := by rw [zbC]; unfold zd; omega
   have hl1 : (s.2 ++ [[zhh t A[k]]]).length = s.2.length + 1 := by simp
   have hcc := ziC s.2 (zhh t A[k])
   rw [Nat.mul_one] at hcc
   simp only [hm, decide_false, Bool.not_false, zD, hc, List.length_cons, List.length_nil, Nat.zero_add, b1, if_true, Zk k (by omega), jA, hl1, <- hcc]
   exact if_pos b2) A.length 0 600 s () (by omega) (by omega) hs
 obtain ⟨s', x', e1, h1, h2⟩ := this
 subst e1
 exact ⟨h2, h1⟩
end
theorem zjl {C : qC} {A : List RT0} {t : Int} {x : List AV × Nat} (h : UpR C C.length (zdb C A t) x) (hA : A.length <= 100) (hC : C.length <= 63) : AdR A 0 (zdb C A t) () := ⟨by have := h.1; omega, by have := h.1; have := h.2.1; omega⟩
theorem zzO {C : qC} {A : List RT0} {t : Int} (h : PubG C A t) (hW : Wf C) : zav 600 (zj C, A.map zl, t) = some (zj (zfB C A t).2, zg (zfB C A t).1, 0) := by
 obtain ⟨hC, hle, hvs, hE, ht, hat⟩ := h
 have hAl := hE.le
 have hV := za1 hW
 rw [decide_eq_true hC] at hV
 have hEv := zuC (by omega) hE.pk
 rw [decide_eq_true hE.ok] at hEv
 have hTm := zou hC ht.1 ht.2
 rw [if_pos hat] at hTm
 obtain ⟨cs, q1, q2⟩ := zy9 (by omega) (by omega) hC
 have f1 := zr5 hC hAl hE.pk hE hle
 obtain ⟨-, f2, f3⟩ := zny hC (by omega) hE.pk
 obtain ⟨x, u1, u2⟩ := zzM hC hvs hE.g t (zaq C A) f3 f2 [] cs 0 q2 rfl
 have hAd := zjl u1 hAl hle
 obtain ⟨a1, a2⟩ := zse hE.g hAl t (zaq C A) [] (zdb C A t) hAd
 replace a1 : zgN 600 (zg (zdb C A t).1, A.map zl, t, A.length, (A.length : Int), 0, [], (zdb C A t).2.length, bk A.length (zaq C A), jw (zdb C A t).2) = some (zg (zfB C A t).1, [], (zfB C A t).2.length, jw (zfB C A t).2) := a1
 have hpl : (zfB C A t).2.length <= 500 := by have := a2.1; exact (show (zfB C A t).2.length + (A.length - A.length) <= 500 from this) |> λ h => by omega
 obtain ⟨n7, n8⟩ := zn7 hpl
 have n9 : ((0 : Int) != 0) = false := by decide
 have c1 : (0 <= (A.length : Int) /\ (A.length : Int) <= (A.length : Int) /\ (A.length : Int).toNat * 1 <= zd) := by unfold zd; omega
 have c4 : List.replicate A.length (AV.v (.bool false)) = bk A.length [] := by
  refine List.ext_getElem (by simp [bk]) λ j h1 h2 => ?_
  simp [bk]
 rw [u1.1] at a1
 have hdm : x.1.map dat0 = jw (zdb C A t).2 := u1.2.2.2.1.d0
 simp only [zav, FSpec.d, zgO, hV, hEv, hTm, Bool.not_true, n9, q1, List.length_map]
 rw [if_pos c1]
 simp only [f1, q2.dJ, q2.dF, zZ, f3, c4, zD, Int.toNat_natCast, u2, List.length_map, hdm, a1, n7]
 rw [if_pos n8, zea]
end
section
open Classical
section
variable {C : qC} (hC : CG mxT 100 500 C) (hm : ∀ x ∈ C, x.length < 100) {A : List RT0} (hA : ∀ a ∈ A, EvG a) (hAl : A.length <= 100) (t : Int) (L : List Int) (hL : L.length = C.length) (hr : Rg A.length L) (X : List (List AV))
include hC hm hA hL hr
theorem zz9 (cs : List AV) (hF : FC C 0 cs) (e : L = zaq C A) : ∃ x, UpR C C.length (zdb C A t) x /\ zlI 600 ([], A.map zl, t, C.length, 0, zj C, X, C.length, cs, ic L, 0, C.length) = some (.inr (zg (zdb C A t).1, A.map zl, t, C.length, X, C.length, x.1, ic L, x.2, C.length)) := by
 have hle := hC.le
 have := jT (l := zaD 600) (S := PS) (W := List AV × Nat) (n := C.length) (UpR C) (λ k s => zqB C A t L k s) (λ k s x => (zg s.1, A.map zl, t, C.length, (k : Int), zj C, X, C.length, x.1, ic L, x.2, C.length)) (λ s x => .inr (zg s.1, A.map zl, t, C.length, X, C.length, x.1, ic L, x.2, C.length)) (λ s x hR Lf => by
  have e2 := ltF C.length C.length (by omega)
  simp only [zaD, e2, zt, hR.2.2.2.1.dF]) (λ k s x hk hR Lf => by
  have hR0 := hR
  obtain ⟨h1, h2, hj, hF, h5⟩ := hR
  have hkL : k < L.length := by omega
  have hkd : k < s.2.length := by omega
  have hDk : s.2[k] = C[k] := h5 k hkd hk (Nat.le_refl _)
  have e2 := ltT k C.length (by omega)
  have h0 := nnI k
  have hk1 : (k : Int) < (C.length : Int) := by omega
  have hx := hC.xs k hk
  have hxl := hm C[k] (List.getElem_mem _)
  have hla := zcS C[k] hx.ne (by omega)
  have hlV := znL hk hx.ne
  have hLast := hx.last
  obtain ⟨u, hu⟩ : ∃ u, u = C[k].getLast hx.ne := ⟨_, rfl⟩
  rw [<- hu] at hla hlV hLast
  have hop := znW 600 u
  have hrk := hr _ (List.getElem_mem hkL)
  obtain ⟨q, v, a1, a2⟩ := zvh A hA t u hLast.ev L[k] (k : Int) hrk (zg s.1) C.length C.length (zj C) X x.1 (ic L) hF.dF (zt L) x.2 C.length
  replace a1 : zex 600 (zg s.1, A.map zl, t, C.length, (k : Int), (u.1 == 2), L[k], decide (L[k] >= 0), zj C, X, C.length, u, (2, t, (⟨#[]⟩ : ByteArray), 0, u.2.2.2.2), x.1, ic L, x.2, C.length) = _ := a1
  have n1 := Zk k (by omega)
  have hg : zqB C A t L k s = match zdk A t u L[k] with | some v => (s.1 ++ [(k : Int)], s.2.set k (s.2.getD k [] ++ [v])) | none => s := by
   unfold zqB
   rw [hlV, JH _ hkL]
   try rfl
  simp only [zaD, e2, h0, hk1, and_self, if_true, Int.toNat_natCast, zC C k hk, rd6, hla, Nat.zero_add, Nat.mul_one, Nat.add_zero, zcL L k hkL, hF.dF, zt, a1, hop]
  cases ho : JY (kdV u) with
  | false =>
   have hnv : zdk A t u L[k] = none := if_neg (by rw [ho]; decide)
   rw [hg, hnv]
   refine ⟨x, hR0.same, ?_⟩
   simp only [n1, hF.dF, zt]
   rfl
  | true =>
   have hnv := a2 ho
   cases q with
   | true =>
    rw [hg, hnv]
    refine ⟨x, hR0.same, ?_⟩
    simp only [Bool.not_true, n1, hF.dF, zt]
    rfl
   | false =>
    rw [hg, hnv]
    obtain ⟨tk, q3, _, q4⟩ := hF.2 k hkd
    rw [q4 hj] at q3
    have gd : s.2.getD k [] = s.2[k] := JH _ hkd
    have hF1 := (hF.to hj).set hkd (s.2[k] ++ [v]) (q := 6592) (by unfold TOB; omega)
    have hr' : (s.2[k].map zo) ++ [zo v] = (s.2[k] ++ [v]).map zo := by simp
    have b1 : ((s.2[k].map zo).length + 1) * 288 <= zd := by rw [hDk]; unfold zd; simp; omega
    have b2 : k + 1 <= x.1.length := by rw [hF.1]; omega
    have b3 : ((zg s.1).length + 1) * 8 <= zd := by rw [zZ]; unfold zd; omega
    have sp : (splice x.1 k [AV.list 29 ((s.2[k] ++ [v]).map zo) (some 6592)])[k]? = some (AV.list 29 ((s.2[k] ++ [v]).map zo) (some 6592)) := by
     show (x.1.set k _)[k]? = _
     rw [List.getElem?_set_self (by omega)]
    have l1 : Zf 29 (AV.list 29 ((s.2[k] ++ [v]).map zo) (some 6592)) = some ((s.2[k] ++ [v]).map zo) := by simp [Zf]
    have c1 : decide ((((s.2[k] ++ [v]).map zo).length : Int) > 100) = false := decide_eq_false (by rw [hDk]; simp; omega)
    refine ⟨(_, k + 1), by rw [if_neg (by decide), gd]; exact hR0.upd hF1, ?_⟩
    simp only [Bool.not_false, q3, hj, hk, and_self, if_true, List.length_cons, List.length_nil, Nat.zero_add, b1, hr', b2, b3, sp, l1, c1, n1, zt, jA]
    rfl) C.length 0 600 ([], C) (cs, 0) (by omega) (by omega) ⟨rfl, Nat.le_refl _, Nat.le_refl _, hF, λ i h h' _ => rfl⟩
 obtain ⟨s', x', e1, h1, h2⟩ := this
 subst e
 rw [show s' = zdb C A t from e1] at h1 h2
 exact ⟨x', h1, h2⟩
end
section
variable {A : List RT0} (hA : ∀ a ∈ A, EvG a) (hAl : A.length <= 100) (t : Int) (L : List Int) (hL : L.length <= 500) (X : List (List AV))
include hA hAl hL
theorem zAa (s : PS) (hs : AdR A 0 s ()) : zgS 600 (zg s.1, A.map zl, t, L.length, 0, X, s.2.length, ic L, jw s.2) = some (zg ((List.range' 0 A.length).foldl (λ s k => zfy A t L k s) s).1, X, ((List.range' 0 A.length).foldl (λ s k => zfy A t L k s) s).2.length, jw ((List.range' 0 A.length).foldl (λ s k => zfy A t L k s) s).2) := by
 have _ := hA
 have := jT (l := zaE 600) (S := PS) (W := Unit) (n := A.length) (AdR A) (λ k s => zfy A t L k s) (λ k s _ => (zg s.1, A.map zl, t, L.length, (k : Int), X, s.2.length, ic L, jw s.2)) (λ s _ => (zg s.1, X, s.2.length, jw s.2)) (λ s x hR Lf => by
  have e2 := ltF A.length A.length (by omega)
  simp only [zaE, List.length_map, e2, Ja]) (λ k s x hk hR Lf => by
  refine ⟨(), hR.next hk t L, ?_⟩
  obtain ⟨h1, h2⟩ := hR
  have e2 := ltT k A.length (by omega)
  have h0 := nnI k
  obtain ⟨b, j1, j2⟩ := zCT L (k : Int) hL
  simp only [zaE, List.length_map, e2, Ja, zt, j1]
  cases b with
  | true =>
   have : zfy A t L k s = s := if_pos (j2.1 rfl)
   rw [this]
   simp only [Bool.not_true, Zk k (by omega)]
   rfl
  | false =>
   have : zfy A t L k s = (s.1 ++ [(s.2.length : Int)], s.2 ++ [[zhh t (A.getD k zE)]]) := if_neg λ h => by cases j2.2 h
   rw [this, zvJ hk]
   have b1 : ((zg s.1).length + 1) * 8 <= zd := by rw [zZ]; unfold zd; omega
   have b2 : (s.2.length * 1 <= (jw s.2).length /\ (s.2.length + 1) * 24 <= zd) := by rw [zbC]; unfold zd; omega
   have hl1 : (s.2 ++ [[zhh t A[k]]]).length = s.2.length + 1 := by simp
   simp only [Bool.not_false, h0, if_true, Int.toNat_natCast, ze9 A k hk, Zh, List.length_cons, List.length_nil, Nat.zero_add, b1, Zk k (by omega), jA, hl1, <- ziC]
   exact if_pos b2) A.length 0 600 s () (by omega) (by omega) hs
 obtain ⟨s', x', e1, h1, h2⟩ := this
 subst e1
 exact h2
end
theorem zzP {C : qC} {A : List RT0} {t : Int} (h : PubG C A t) (hW : Wf C) : zbW 600 (zj C, A.map zl, t) = some (zj (zfB C A t).2, zg (zfB C A t).1, 0) /\ AdR A A.length (zfB C A t) () := by
 obtain ⟨hC, hle, hvs, hE, ht, hat⟩ := h
 have hAl := hE.le
 have hV := Js hW
 rw [decide_eq_true hC] at hV
 have hEv := zpF (by omega) hE.pk
 rw [decide_eq_true hE.ok] at hEv
 have hLt := zuL (t := t) hC
 rw [decide_eq_true hat] at hLt
 obtain ⟨cs, q1, q2⟩ := zr1 (C := C) (by omega) (hC.small (by omega))
 obtain ⟨f1, f2, f3⟩ := zny hC (by omega) hE.pk
 obtain ⟨x, u1, u2⟩ := zz9 hC hvs hE.g t (zaq C A) f3 f2 [] cs q2 rfl
 have hAd := zjl u1 hAl hle
 have a1 := zAa hE.g hAl t (zaq C A) (by omega) [] (zdb C A t) hAd
 obtain ⟨-, a2⟩ := zse hE.g hAl t (zaq C A) [] (zdb C A t) hAd
 replace a1 : zgS 600 (zg (zdb C A t).1, A.map zl, t, (zaq C A).length, 0, [], (zdb C A t).2.length, ic (zaq C A), jw (zdb C A t).2) = some (zg (zfB C A t).1, [], (zfB C A t).2.length, jw (zfB C A t).2) := a1
 replace a2 : AdR A A.length (zfB C A t) () := a2
 refine ⟨?_, a2⟩
 have hpl : (zfB C A t).2.length <= 500 := by have := a2.1; omega
 obtain ⟨n7, n8⟩ := zn7 hpl
 have n5 : decide (t < 0) = false := decide_eq_false (by omega)
 have n6 : decide (t > 18014398509481984) = false := decide_eq_false (by omega)
 rw [f3, u1.1] at a1
 have hdm : x.1.map dat0 = jw (zdb C A t).2 := u1.2.2.2.1.d0
 simp only [zbW, FSpec.d, zgT, hV, hEv, hLt, Bool.not_true, n5, n6, q1, q2.dJ, q2.dF, f1, zt, u2, hdm, a1, n7]
 rw [if_pos n8, zea]
end
section
open Classical
theorem ze5 {S : Type} (I : Nat -> S -> Prop) (g : Nat -> S -> S) (n : Nat) (h : ∀ k s, k < n -> I k s -> I (k + 1) (g k s)) : ∀ (d k : Nat) (s : S), k + d = n -> I k s -> I n ((List.range' k d).foldl (λ a i => g i a) s)
 | 0, k, s, hk, hI => by
  obtain rfl : k = n := by omega
  exact hI
 | d + 1, k, s, hk, hI => ze5 I g n h d (k + 1) (g k s) (by omega) (h k s (by omega) hI)
theorem zuT {A : List RT0} (hA : ∀ a ∈ A, jj a) {t : Int} {u v : RT7} {k : Int} (hu : jj (evV u)) (h : zdk A t u k = some v) : WfV v := by
 have aut : ∀ a, jj a -> WfV (zhh t a) := λ a h => ⟨h, by show (0 : Nat) <= _; omega⟩
 unfold zdk at h
 split at h
 ·split at h
  ·split at h
   ·cases h
   ·obtain rfl := Option.some.inj h
    exact aut _ (hA _ (List.getElem_mem _))
  ·split at h
   ·cases h
   ·obtain rfl := Option.some.inj h
    exact ⟨hu, by show (0 : Nat) <= _; omega⟩
 ·cases h
structure PubW (C : qC) (n : Nat) (D : qC) : Prop where
 wf : Wf D
 le : D.length <= C.length + n
 ne : ∀ x ∈ D, x ≠ []
 xs : ∀ m, (∀ x ∈ C, x.length <= m) -> ∀ x ∈ D, x.length <= m + 1
theorem zzN {C : qC} {A : List RT0} {t : Int} (h : PubG C A t) (hW : Wf C) : PubW C A.length (zfB C A t).2 := by
 have hp := h.ev.pk
 have hle := h.le
 have hAl := h.ev.le
 have u := ze5 (λ k (s : PS) => s.2.length = C.length /\ ∀ i (h : i < s.2.length) (h' : i < C.length), (k <= i -> s.2[i] = C[i]) /\ s.2[i] ≠ [] /\ s.2[i].length <= C[i].length + 1 /\ ∀ v ∈ s.2[i], WfV v) (λ k s => zqB C A t (zaq C A) k s) C.length (λ k s hk hI => by
  obtain ⟨h1, h2⟩ := hI
  unfold zqB
  have hx := h.cg.xs k hk
  rw [znL hk hx.ne]
  split
  ·rename_i v hv
   refine ⟨by simpa using h1, λ i hi hi' => ?_⟩
   have hkd : k < s.2.length := by omega
   have hi2 : i < s.2.length := by simpa using hi
   obtain ⟨g1, g2, g3⟩ := h2 i hi2 hi'
   refine ⟨λ hki => ?_, ?_⟩
   ·show (s.2.set k _)[i]'_ = _
    rw [List.getElem_set_ne (by omega)]
    exact g1 (by omega)
   ·show (s.2.set k _)[i]'_ ≠ [] /\ ((s.2.set k _)[i]'_).length <= C[i].length + 1 /\ ∀ v ∈ (s.2.set k _)[i]'_, WfV v
    rw [List.getElem_set]
    split
    ·rename_i e
     subst e
     rw [JH _ hkd, g1 (Nat.le_refl _)]
     refine ⟨by simp, by simp, λ w hw => ?_⟩
     rcases List.mem_append.1 hw with hw | hw
     ·exact hW.vs _ (List.getElem_mem _) w hw
     ·rw [List.mem_singleton.1 hw]
      exact zuT hp hx.last.ev.pk hv
    ·exact ⟨g2, g3⟩
  ·exact ⟨h1, λ i hi hi' => ⟨λ hki => (h2 i hi hi').1 (by omega), (h2 i hi hi').2⟩⟩) C.length 0 ([], C) (by omega) ⟨rfl, λ i hi hi' => ⟨λ _ => rfl, (h.cg.xs i hi').ne, Nat.le_succ _, hW.vs _ (List.getElem_mem _)⟩⟩
 replace u : (zdb C A t).2.length = C.length /\ _ := u
 have a := ze5 (λ k (s : PS) => s.2.length <= C.length + k /\ ∀ x ∈ s.2, x ≠ [] /\ (∀ m, (∀ x ∈ C, x.length <= m) -> x.length <= m + 1) /\ ∀ v ∈ x, WfV v) (λ k s => zfy A t (zaq C A) k s) A.length (λ k s hk hI => by
  unfold zfy
  split
  ·exact ⟨by omega, hI.2⟩
  ·refine ⟨by simp; omega, λ x hx => ?_⟩
   rcases List.mem_append.1 hx with hx | hx
   ·exact hI.2 x hx
   ·rw [List.mem_singleton.1 hx, zvJ hk]
    exact ⟨by simp, λ m _ => by simp, λ v hv => by rw [List.mem_singleton.1 hv]; exact ⟨hp _ (List.getElem_mem _), by show (0 : Nat) <= _; omega⟩⟩) A.length 0 (zdb C A t) (by omega) ⟨by omega, λ x hx => by
  obtain ⟨i, hi, rfl⟩ := List.getElem_of_mem hx
  have hi' : i < C.length := by rw [<- u.1]; exact hi
  obtain ⟨-, g1, g2, g3⟩ := u.2 i hi hi'
  exact ⟨g1, λ m hm => Nat.le_trans g2 (Nat.succ_le_succ (hm _ (List.getElem_mem hi'))), g3⟩⟩
 replace a : (zfB C A t).2.length <= C.length + A.length /\ ∀ x ∈ (zfB C A t).2, x ≠ [] /\ (∀ m, (∀ x ∈ C, x.length <= m) -> x.length <= m + 1) /\ ∀ v ∈ x, WfV v := a
 have hx99 : ∀ x ∈ C, x.length <= 99 := λ x hx => by have := h.vs x hx; omega
 exact ⟨⟨by omega, λ x hx => (a.2 x hx).2.1 99 hx99, λ x hx => (a.2 x hx).2.2⟩, a.1, λ x hx => (a.2 x hx).1, λ m hm x hx => (a.2 x hx).2.1 m hm⟩
theorem zjd {C : qC} (hW : Wf C) (h63 : C.length <= 63) (hv : ∀ x ∈ C, x.length < 100) {A : List RT0} (hA : A.length <= 100) (hp : ∀ a ∈ A, jj a) (t : Int) : ∃ D l y, zav 600 (zj C, A.map zl, t) = some (zj D, zg l, y) /\ zbW 600 (zj C, A.map zl, t) = some (zj D, zg l, y) /\ Wf D /\ l.length <= 500 /\ (y = 0 -> PubW C A.length D) := by
 have no : ∀ (y : Int), y ≠ 0 -> zav 600 (zj C, A.map zl, t) = some ([], [], y) -> zbW 600 (zj C, A.map zl, t) = some ([], [], y) -> ∃ D l y, zav 600 (zj C, A.map zl, t) = some (zj D, zg l, y) /\ zbW 600 (zj C, A.map zl, t) = some (zj D, zg l, y) /\ Wf D /\ l.length <= 500 /\ (y = 0 -> PubW C A.length D) := λ y hy h1 h2 => ⟨[], [], y, h1, h2, Wf.none, Nat.zero_le _, λ h => absurd h hy⟩
 have v1 := za1 hW
 have v2 := Js hW
 have v3 := zuC (A := A) (by omega) hp
 have v4 := zpF (A := A) (by omega) hp
 by_cases hC : CG mxT 100 500 C
 case neg =>
  rw [decide_eq_false hC] at v1 v2
  refine no 1 (by decide) ?_ ?_
  ·simp only [zav, FSpec.d, zgO, v1, Bool.not_false]
  ·simp only [zbW, FSpec.d, zgT, v2, Bool.not_false]
 rw [decide_eq_true hC] at v1 v2
 by_cases hE : All (EP A) 0 A.length
 case neg =>
  rw [decide_eq_false hE] at v3 v4
  refine no 1 (by decide) ?_ ?_
  ·simp only [zav, FSpec.d, zgO, v1, v3, Bool.not_true, Bool.not_false]
  ·simp only [zbW, FSpec.d, zgT, v2, v4, Bool.not_true, Bool.not_false]
 by_cases ht : 0 <= t /\ t <= 18014398509481984
 case neg =>
  rw [decide_eq_true hE] at v3 v4
  have t1 := zvA (zj C) (t := t) (by omega)
  have n9 : ((2 : Int) != 0) = true := by decide
  refine no 2 (by decide) ?_ ?_
  ·simp only [zav, FSpec.d, zgO, v1, v3, t1, n9, Bool.not_true]
  ·simp only [zbW, FSpec.d, zgT, v2, v4, Bool.not_true]
   by_cases h0 : t < 0
   ·simp only [decide_eq_true h0]
   ·have h1 : t > 18014398509481984 := by omega
    simp only [decide_eq_false h0, decide_eq_true h1]
 by_cases hat : All (AP C t) 0 C.length
 case neg =>
  rw [decide_eq_true hE] at v3 v4
  have t1 := zou hC ht.1 ht.2
  rw [if_neg hat] at t1
  have t2 := zuL (t := t) hC
  rw [decide_eq_false hat] at t2
  have n9 : ((9 : Int) != 0) = true := by decide
  have n5 : decide (t < 0) = false := decide_eq_false (by omega)
  have n6 : decide (t > 18014398509481984) = false := decide_eq_false (by omega)
  refine no 9 (by decide) ?_ ?_
  ·simp only [zav, FSpec.d, zgO, v1, v3, t1, n9, Bool.not_true]
  ·simp only [zbW, FSpec.d, zgT, v2, v4, n5, n6, t2, Bool.not_true, Bool.not_false]
 have hP : PubG C A t := ⟨hC, h63, hv, ⟨by omega, hp, hE⟩, ht, hat⟩
 obtain ⟨r1, r2⟩ := zzP hP hW
 have r3 := zzN hP hW
 exact ⟨_, _, _, zzO hP hW, r1, r3.wf, by have := r2.1; have := r2.2; omega, λ _ => r3⟩
theorem zpJ {C : qC} (hW : Wf C) (h63 : C.length <= 63) {A : List RT0} (hA : A.length <= 100) (hp : ∀ a ∈ A, jj a) (hC : CG mxT 100 500 C) (hE : All (EP A) 0 A.length) : zlM 600 (zj C, A.map zl) = some (zg (zaq C A)) /\ zs1 600 (zj C, A.map zl) = some (zg (zaq C A)) /\ (zaq C A).length = C.length := by
 refine ⟨zr5 hC hA hp ⟨hA, hp, hE⟩ h63, ?_, (zny hC (by omega) hp).2.2⟩
 obtain ⟨a1, a2, a3⟩ := ziT hC (A := A) (by omega)
 obtain ⟨b1, b2, b3⟩ := zgc hC (by omega) hp _ a3 a2
 replace a1 : zri 600 (0, A.map zl, 0, zj C, []) = _ := a1
 replace b1 : zlN 600 (A.map zl, C.length, 0, zj C, ic _) = _ := b1
 have c2 : C.length * 1 <= (ic (zaq C A)).length := by rw [zcM]; show _ <= (J0 _ _ _ _).length; omega
 have c3 := znG (zaq C A)
 rw [show (zaq C A).length = C.length from b3] at c3
 simp only [zs1, FSpec.d, zs3, a1, zt, b1]
 exact (if_pos c2).trans (by rw [<- c3]; rfl)
end
section
open Classical
structure GW (m e : Nat) (C : qC) : Prop where
 wf : Wf C
 le : C.length <= e
 ne : ∀ x ∈ C, x ≠ []
 xs : ∀ x ∈ C, x.length <= m
theorem GW.mono {m e m' e' : Nat} {C : qC} (h : GW m e C) (hm : m <= m') (he : e <= e') : GW m' e' C := ⟨h.wf, Nat.le_trans h.le he, h.ne, λ x hx => Nat.le_trans (h.xs x hx) hm⟩
theorem GW.snoc {m e i : Nat} {C : qC} (h : GW m e C) (hm : m < 100) (hi : i < C.length) {v : RT7} (hv : WfV v) : GW (m + 1) e (C.set i (C[i] ++ [v])) := by
 have hx := h.xs C[i] (List.getElem_mem _)
 refine ⟨h.wf.set (by simp; omega) λ w hw => ?_, by rw [List.length_set]; exact h.le, λ x hx' => ?_, λ x hx' => ?_⟩
 ·rcases List.mem_append.1 hw with hw | hw
  ·exact h.wf.vs _ (List.getElem_mem _) w hw
  ·rw [List.mem_singleton.1 hw]; exact hv
 ·rcases List.mem_or_eq_of_mem_set hx' with hx' | rfl
  ·exact h.ne x hx'
  ·simp
 ·rcases List.mem_or_eq_of_mem_set hx' with hx' | rfl
  ·have := h.xs x hx'; omega
  ·simp; omega
def Res (m e : Nat) (p : Option ((List (List AV)) × Int)) : Prop := ∃ D y, p = some (zj D, y) /\ (y = 0 -> GW m e D)
theorem zeF {m e : Nat} {C : qC} (hG : GW m e C) (hm : m < 100) (id : Int) {k t to : Int} {b : ByteArray} {e1 : RT0} (hk : k = 3 \/ k = 4 \/ k = 5 \/ k = 6) (hb : b.size <= 9223372036854775807) (he : jj e1) (h0 : k ≠ 5 -> to = 0) : Res (m + 1) e (zjN 600 (zj C, id, (k, t, b, to, e1))) := by
 have no : ∀ {p : Option ((List (List AV)) × Int)} (y : Int), y ≠ 0 -> p = some ([], y) -> Res (m + 1) e p := λ y hy h1 => ⟨[], y, h1, λ h => absurd h hy⟩
 have hW := hG.wf
 have a1 := Js hW
 have a3 : zjW 600 b = some (zdl b) := zzL hb
 simp only [zjN, FSpec.d, ztd]
 have g2 : (CG mxT 100 500 C /\ zl2 600 (id, zj C, (k, t, b, to, e1), []) = some (.inr (id, zj C, (k, t, b, to, e1), []))) \/ zl2 600 (id, zj C, (k, t, b, to, e1), []) = some (.inl (id, 1, zj C, (k, t, b, to, e1), [])) := by
  show (_ /\ (za5 600).b _ _ ((za5 600).L 599) some = _) \/ (za5 600).b _ _ ((za5 600).L 599) some = _
  simp only [za5, a1, a3]
  by_cases hC : CG mxT 100 500 C
  case neg => exact .inr (by rw [decide_eq_false hC]; rfl)
  rw [decide_eq_true hC]
  cases zdl b with
  | false => exact .inr rfl
  | true =>
  by_cases k3 : k = 3
  ·rcases ze2 he with ⟨-, a5, -⟩ | ⟨-, a5, -⟩
   all_goals replace a5 : zaF 600 [zl (zm (k, t, b, to, e1))] = some _ := a5
   all_goals simp only [a5, k3]
   ·exact .inl ⟨hC, rfl⟩
   ·exact .inr rfl
  ·have c1 : (k == 3) = false := by simp [k3]
   simp only [c1]
   exact .inl ⟨hC, rfl⟩
 rcases g2 with ⟨hC, g1⟩ | g1
 case inr => exact no 1 (by decide) (by simp only [g1])
 have hle := hC.le
 simp only [g1, zq]
 by_cases c1 : id < 0
 ·exact no 6 (by decide) (by simp only [c1, decide_true])
 by_cases c2 : id >= (C.length : Int)
 ·exact no 6 (by decide) (by simp only [c1, c2, decide_true, decide_false])
 by_cases c3 : to < 0
 ·exact no 6 (by decide) (by simp only [c1, c2, c3, decide_true, decide_false])
 by_cases c4 : to >= (C.length : Int)
 ·exact no 6 (by decide) (by simp only [c1, c2, c3, c4, decide_true, decide_false])
 by_cases t1 : t < 0
 ·exact no 2 (by decide) (by simp only [c1, c2, c3, c4, t1, decide_true, decide_false])
 by_cases t2 : t > 18014398509481984
 ·exact no 2 (by decide) (by simp only [c1, c2, c3, c4, t1, t2, decide_true, decide_false])
 obtain ⟨id, rfl⟩ : ∃ i : Nat, id = (i : Int) := ⟨id.toNat, by omega⟩
 simp only [c1, c2, c3, c4, t1, t2, decide_false, zuL hC]
 cases decide (All (AP C t) 0 C.length) with
 | false => exact no 9 (by decide) rfl
 | true =>
 have hI : id < C.length := by omega
 have h0' : 0 <= (id : Int) := by omega
 have hx := hC.xs id hI
 have hxl := hG.xs C[id] (List.getElem_mem _)
 have hla := zcS C[id] hx.ne (by omega)
 obtain ⟨L, hLd⟩ : ∃ L, L = C[id].getLast hx.ne := ⟨_, rfl⟩
 have hL := hx.last
 rw [<- hLd] at hla hL
 have g19 : zg1 600 ((id : Int), zj C, (k, t, b, to, e1), [], L) = some (.inl ((id : Int), 10, zj C, (k, t, b, to, e1), [], L)) \/ zg1 600 ((id : Int), zj C, (k, t, b, to, e1), [], L) = some (.inr ((id : Int), zj C, (k, t, b, to, e1), [], L)) := by
  have hop := znW 600 L
  show (j6 600).b _ _ ((j6 600).L 599) some = _ \/ (j6 600).b _ _ ((j6 600).L 599) some = _
  simp only [j6, hop]
  cases (k == 5) <;> cases (to == (id : Int)) <;> cases (k == 6) <;> cases JY (kdV L) <;> first | exact .inl rfl | exact .inr rfl
 simp only [Bool.not_true, h0', if_true, Int.toNat_natCast, zC C id hI, rd6, hla]
 rcases g19 with h19 | h19
 ·exact no 10 (by decide) (by rw [h19])
 rw [h19]
 simp only [h0', if_true, Int.toNat_natCast, zC C id hI, zc1, zgn]
 have m1 : (((C[id].map zo).length : Int) == 100) = false := by simp; omega
 have hkp := zr8 600 k
 obtain ⟨cr, u1, u2⟩ := zr1 (C := C) hle (hC.small (by omega))
 obtain ⟨tk, q3, _, q4⟩ := u2.2 id hI
 rw [q4 (Nat.zero_le _)] at q3
 have hI' : (id : Int) < (C.length : Int) := by omega
 have d2 : id + 1 <= cr.length := by rw [u2.1]; exact hI
 have d3 : ∀ q, C.length <= (splice cr id q).length := λ q => by rw [zB, u2.1]; exact Nat.le_refl _
 simp only [m1, hkp, u1]
 have fin : ∀ V : RT7, WfV V -> Res (m + 1) e (if ((C[id].map zo).length + [zo V].length) * 288 <= zd then (if C.length <= (splice cr id [AV.list 29 (C[id].map zo ++ [zo V]) (some 7872)]).length then some (zp ((splice cr id [AV.list 29 (C[id].map zo ++ [zo V]) (some 7872)]).take C.length) 1 C.length, 0) else none) else none) := λ V hV => by
  have b1 : ((C[id].map zo).length + [zo V].length) * 288 <= zd := by unfold zd; simp; omega
  have hr : C[id].map zo ++ [zo V] = (C[id] ++ [V]).map zo := by simp
  have hc := u2.csp id (C[id] ++ [V]) 7872
  rw [Nat.mul_one] at hc
  rw [if_pos b1, if_pos (d3 _), hr, hc]
  exact ⟨_, _, rfl, λ _ => hG.snoc hm hI hV⟩
 cases zcR k with
 | true =>
  simp only [Int.toNat_natCast, hI', h0', u2.dJ, Nat.zero_add, Nat.mul_one, Nat.add_zero, q3, hI, and_self, if_true, Nat.zero_le, d2]
  exact fin (k, t, b, to, evV L) ⟨hL.ev.pk, hb⟩
 | false =>
  simp only [Int.toNat_natCast, hI', h0', u2.dJ, Nat.zero_add, Nat.mul_one, Nat.add_zero, q3, hI, and_self, if_true, Nat.zero_le, d2]
  exact fin (k, t, b, to, e1) ⟨he, hb⟩
theorem zby {m e : Nat} {C : qC} (hG : GW m e C) (hm : m < 100) (id to t : Int) {b : ByteArray} {x : RT0} (hb : b.size <= 9223372036854775807) (hx : jj x) : Res (m + 1) e (zwG 600 (zj C, id, b, x, t)) /\ Res (m + 1) e (zwJ 600 (zj C, id, b, t)) /\ Res (m + 1) e (zwM 600 (zj C, id, to, b, t)) /\ Res (m + 1) e (zwP 600 (zj C, id, b, t)) := by
 have hz : jj zE := ⟨[], by simp, rfl⟩
 have go : ∀ {p : Option ((List (List AV)) × Int)}, Res (m + 1) e p -> Res (m + 1) e (match p with | some y1 => some y1 | none => none) := λ ⟨D, y, h1, h2⟩ => ⟨D, y, by rw [h1], h2⟩
 exact ⟨go (zeF hG hm id (k := 3) (to := 0) (by simp) hb hx λ _ => rfl), go (zeF hG hm id (k := 4) (to := 0) (e1 := zE) (by simp) hb hz λ _ => rfl), go (zeF hG hm id (k := 5) (to := to) (e1 := zE) (by simp) hb hz λ h => absurd rfl h), go (zeF hG hm id (k := 6) (to := 0) (e1 := zE) (by simp) hb hz λ _ => rfl)⟩
theorem znC {xs : List Int} {p : Int} (D : Sc xs p) (n : Nat) (hn : n <= 15) : ∃ (C : qC) (t p' : Int), zsA 600 ((n : Int), zg xs, p) = some (zj C, t, zg xs, p') /\ Sc xs p' /\ GW n (4 * n) C := by
 have := jT (l := zdq 600) (S := Unit) (W := Int × Int × qC) (n := n) (λ i _ x => Sc xs x.1 /\ (100 <= x.2.1 /\ x.2.1 <= 100 + 50 * i) /\ GW i (4 * i) x.2.2) (λ _ _ => ()) (λ i _ x => ((n : Int), x.2.1, (i : Int), zg xs, x.1, [], zj x.2.2)) (λ _ x => (x.2.1, zg xs, x.1, [], zj x.2.2)) (λ _ x _ Lf => by
  have e2 := ltF n n (by omega)
  simp only [zdq, e2]) (λ i _ x hi hR Lf => by
  obtain ⟨p, now, C⟩ := x
  obtain ⟨D, ⟨h1, h2⟩, hG⟩ := hR
  replace h1 : 100 <= now := h1
  replace h2 : now <= 100 + 50 * i := h2
  replace D : Sc xs p := D
  replace hG : GW i (4 * i) C := hG
  have hle := hG.le
  have hm : i < 100 := by omega
  have e2 := ltT i n (by omega)
  have n1 := Zk i (by omega)
  obtain ⟨a1, p1, g1, m1, D1⟩ := zar 600 (n := 50) (by omega) D
  obtain ⟨mx, hmx⟩ : ∃ mx : Int, mx = if (C.length : Int) > 1 then (C.length : Int) else 1 := ⟨_, rfl⟩
  have hmx' : 1 <= mx /\ mx <= 1000 := by rw [hmx]; split <;> omega
  obtain ⟨a2, p2, g2, m2, D2⟩ := zar 600 (n := mx) (by omega) D1
  obtain ⟨a3, p3, g3, m3, D3⟩ := zar 600 (n := 8) (by omega) D2
  have i1 : i64 (now + a1) = now + a1 := zW (by omega)
  have keep : ∀ q, Sc xs q -> ∃ x' : Int × Int × qC, (Sc xs x'.1 /\ (100 <= x'.2.1 /\ x'.2.1 <= 100 + 50 * (i + 1 : Nat)) /\ GW (i + 1) (4 * (i + 1)) x'.2.2) /\ Lf ((n : Int), now + a1, ((i + 1 : Nat) : Int), zg xs, q, [], zj C) = Lf ((n : Int), x'.2.1, ((i + 1 : Nat) : Int), zg xs, x'.1, [], zj x'.2.2) := λ q hq => ⟨(q, now + a1, C), ⟨hq, ⟨by show 100 <= now + a1; omega, by show now + a1 <= _; omega⟩, hG.mono (by omega) (by omega)⟩, rfl⟩
  have fin : ∀ (q : Int) (D : qC) (y : Int), Sc xs q -> (y = 0 -> GW (i + 1) (4 * (i + 1)) D) -> ∃ x' : Int × Int × qC, (Sc xs x'.1 /\ (100 <= x'.2.1 /\ x'.2.1 <= 100 + 50 * (i + 1 : Nat)) /\ GW (i + 1) (4 * (i + 1)) x'.2.2) /\ (match (y == 0) with | true => Lf ((n : Int), now + a1, ((i + 1 : Nat) : Int), zg xs, q, [], zj D) | false => Lf ((n : Int), now + a1, ((i + 1 : Nat) : Int), zg xs, q, [], zj C)) = Lf ((n : Int), x'.2.1, ((i + 1 : Nat) : Int), zg xs, x'.1, [], zj x'.2.2) := λ q D y hq hD => by
   by_cases hy : y = 0
   ·have c : (y == 0) = true := by simp [hy]
    rw [c]
    exact ⟨(q, now + a1, D), ⟨hq, ⟨by show 100 <= now + a1; omega, by show now + a1 <= _; omega⟩, hD hy⟩, rfl⟩
   ·have c : (y == 0) = false := by simp [hy]
    rw [c]
    exact keep q hq
  have small : ∀ {b : ByteArray}, Per b -> b.size <= 9223372036854775807 := λ {b} h => by
   have h : zdl b = true := h
   unfold zdl at h
   simp at h
   omega
  have hz : jj zE := ⟨[], by simp, rfl⟩
  simp only [zdq, e2, g1, zq, <- hmx, g2, g3, i1, n1]
  rcases (show a3 = 0 \/ a3 = 1 \/ a3 = 2 \/ a3 = 3 \/ 4 <= a3 by omega) with rfl | rfl | rfl | rfl | h4
  ·have c0 : ((0 : Int) == 0) = true := rfl
   obtain ⟨A, p4, g4, l4, v4, D4⟩ := znq 4 (by omega) D3
   replace g4 : zfH 600 (4, zg xs, p3) = some (A.map zl, zg xs, p4) := g4
   simp only [c0, g4, List.length_map]
   by_cases hA : 0 < A.length
   ·have c1 : decide ((A.length : Int) > 0) = true := decide_eq_true (by omega)
    obtain ⟨b, p5, g5, hb, D5⟩ := zfv D4
    obtain ⟨a6, p6, g6, m6, D6⟩ := zar 600 (n := (A.length : Int)) (by omega) D5
    obtain ⟨z, rfl⟩ : ∃ z : Nat, a6 = (z : Int) := ⟨a6.toNat, by omega⟩
    have hz : z < A.length := by omega
    have hz0 := nnI z
    obtain ⟨d1, y1, r1, r2⟩ := (zby hG hm a2 0 (now + a1) (small hb) (v4.evn (by omega) A[z] (List.getElem_mem _)).pk).1
    simp only [c1, g5, g6, hz0, if_true, Int.toNat_natCast, ze9 A z hz, Zh, r1]
    exact fin p6 d1 y1 D6 λ h => (r2 h).mono (Nat.le_refl _) (by omega)
   ·have c1 : decide ((A.length : Int) > 0) = false := decide_eq_false (by omega)
    simp only [c1]
    exact keep p4 D4
  ·have c0 : ((1 : Int) == 0) = false := rfl
   have c1 : ((1 : Int) == 1) = true := rfl
   obtain ⟨b, p5, g5, hb, D5⟩ := zfv D3
   obtain ⟨d1, y1, r1, r2⟩ := (zby hG hm a2 0 (now + a1) (small hb) hz).2.1
   simp only [c0, c1, g5, r1]
   exact fin p5 d1 y1 D5 λ h => (r2 h).mono (Nat.le_refl _) (by omega)
  ·have c0 : ((2 : Int) == 0) = false := rfl
   have c1 : ((2 : Int) == 1) = false := rfl
   have c2 : ((2 : Int) == 2) = true := rfl
   obtain ⟨a4, p4, g4, m4, D4⟩ := zar 600 (n := mx) (by omega) D3
   obtain ⟨b, p5, g5, hb, D5⟩ := zfv D4
   obtain ⟨d1, y1, r1, r2⟩ := (zby hG hm a2 a4 (now + a1) (small hb) hz).2.2.1
   simp only [c0, c1, c2, g4, g5, r1]
   exact fin p5 d1 y1 D5 λ h => (r2 h).mono (Nat.le_refl _) (by omega)
  ·have c0 : ((3 : Int) == 0) = false := rfl
   have c1 : ((3 : Int) == 1) = false := rfl
   have c2 : ((3 : Int) == 2) = false := rfl
   have c3 : ((3 : Int) == 3) = true := rfl
   obtain ⟨b, p5, g5, hb, D5⟩ := zfv D3
   obtain ⟨d1, y1, r1, r2⟩ := (zby hG hm a2 0 (now + a1) (small hb) hz).2.2.2
   simp only [c0, c1, c2, c3, g5, r1]
   exact fin p5 d1 y1 D5 λ h => (r2 h).mono (Nat.le_refl _) (by omega)
  ·have c0 : (a3 == 0) = false := by simp; omega
   have c1 : (a3 == 1) = false := by simp; omega
   have c2 : (a3 == 2) = false := by simp; omega
   have c3 : (a3 == 3) = false := by simp; omega
   obtain ⟨A, p4, g4, l4, v4, D4⟩ := znq 4 (by omega) D3
   replace g4 : zfH 600 (4, zg xs, p3) = some (A.map zl, zg xs, p4) := g4
   obtain ⟨D, l, y, -, r1, -, -, r2⟩ := zjd hG.wf (by omega) (λ x hx => by have := hG.xs x hx; omega) (A := A) (by omega) (λ e he => (v4.evn (by omega) e he).pk) (now + a1)
   simp only [c0, c1, c2, c3, g4, r1]
   exact fin p4 D y D4 λ h => ⟨(r2 h).wf, by have := (r2 h).le; omega, (r2 h).ne, (r2 h).xs i hG.xs⟩) n 0 600 () (p, 100, []) (by omega) (by omega) ⟨D, ⟨by show (100 : Int) <= 100; omega, by show (100 : Int) <= 100 + 50 * ((0 : Nat) : Int); omega⟩, Wf.none, Nat.zero_le _, λ x h => by simp at h, λ x h => by simp at h⟩
 obtain ⟨-, ⟨p', t, C⟩, -, ⟨h1, -, h3⟩, h2⟩ := this
 replace h2 : zqV 600 ((n : Int), 100, 0, zg xs, p, [], []) = some (t, zg xs, p', [], zj C) := h2
 exact ⟨C, t, p', by simp only [zsA, FSpec.d, zsB, h2], h1, h3⟩
end
section
open Classical
def atN (x : List RT7) (s : Int) : Nat -> List RT0
 | 0 => []
 | m + 1 => match x[m]? with
  | some v => if atV v <= s then (if jc (kdV v) = true then [evV v] else []) else atN x s m
  | none => []
def atE (C : qC) (s : Int) : List RT0 := C.flatMap λ x => atN x s x.length
theorem zm9 (x : List RT7) (s : Int) : ∀ m, (atN x s m).length <= 1
 | 0 => Nat.zero_le _
 | m + 1 => by
  simp only [atN]
  split
  ·split
   ·split <;> simp
   ·exact zm9 x s m
  ·simp
theorem zCF (v : RT7) : zpB RK7 (zo v) = some v := by kernel_rfl
theorem zpi {T : Int} {n i : Nat} {v : RT7} (h : VG T n i v) (m s : Int) (acc : List (List AV)) (ha : acc.length <= 1000) : zbU 600 (m, v, s, acc) = some (if atV v <= s then (false, s, acc ++ (if jc (kdV v) = true then [evV v] else []).map zl) else (true, s, acc)) := by
 have q7 : 0 <= v.1 /\ v.1 < 7 := ⟨h.kd.lt.1, h.kd.lt.2.1⟩
 have hts := zjj h.kd
 simp only [kdV] at hts
 have hc : zb6 600 (zm v) = some (evV v) := Jc h.ev.pk
 have b1 : (acc.length + 1) * 248 <= zd := by unfold zd; omega
 simp only [zbU, FSpec.d, Zl]
 by_cases hs : v.2.1 <= s
 ·have e1 : decide (v.2.1 <= s) = true := by rw [decide_eq_true_iff]; exact hs
  rw [if_pos (show atV v <= s from hs)]
  cases hk : jc v.1 with
  | true =>
   rw [hk] at hts
   simp only [e1, q7, and_self, if_true, hts, hc, List.length_cons, List.length_nil, Nat.zero_add]
   exact if_pos b1
  | false =>
   rw [hk] at hts
   simp only [e1, q7, and_self, if_true, hts, Bool.false_eq_true, if_false, List.map_nil, List.append_nil]
 ·have e1 : decide (v.2.1 <= s) = false := by rw [decide_eq_false_iff_not]; exact hs
  rw [if_neg (show ¬ atV v <= s from hs)]
  simp only [e1]
theorem zCw {T : Int} {n j m0 : Nat} {x : List RT7} (h : XG T n j m0 x) (hm : m0 <= 100) (X : List (List AV)) (l i s : Int) (acc : List (List AV)) (ha : acc.length <= 1000) : ∀ (m f : Nat), m <= x.length -> m < f -> (zO 600).L f (X, l, i, s, acc, x.map zo, m) = some (X, l, i, s, acc ++ (atN x s m).map zl) := by
 have hxl := h.le
 intro m
 have hb : (x.map zo).length <= 1000000 := by simp; omega
 induction m with
 | zero =>
  intro f hk hf
  obtain ⟨f, rfl⟩ := pS hf
  show (zO 600).b _ _ ((zO 600).L f) some = _
  simp only [zO]
  simp only [hb, if_true, atN, List.map_nil, List.append_nil]
 | succ m ih =>
  intro f hk hf
  obtain ⟨f, rfl⟩ := pS hf
  have hml : m < x.length := by omega
  have r1 := ih f (by omega) (by omega)
  have hr := zpi (h.vs m hml) (m : Int) s acc ha
  show (zO 600).b _ _ ((zO 600).L f) some = _
  generalize (zO 600).L f = Lf at r1 |-
  simp only [zO]
  simp only [hb, if_true, zbi x m hml, zCF, hr]
  have hat : atN x s (m + 1) = if atV x[m] <= s then (if jc (kdV x[m]) = true then [evV x[m]] else []) else atN x s m := by
   simp only [atN, List.getElem?_eq_getElem hml]
  rw [hat]
  by_cases hs : atV x[m] <= s
  ·rw [if_pos hs, if_pos hs]
  ·rw [if_neg hs, if_neg hs]
   exact r1
theorem zyU {T : Int} {m e : Nat} {C : qC} (hC : CG T m e C) (he : e <= 500) (hm : m <= 100) (s : Int) : ∀ (d k f : Nat) (acc : List RT0), k + d = C.length -> d < f -> acc.length <= k -> (jL 600).L f (zj C, (C.length : Int), (k : Int), s, acc.map zl) = some ((acc ++ atE (C.drop k) s).map zl) := by
 have hle := hC.le
 intro d
 induction d with
 | zero =>
  intro k f acc hk hf ha
  obtain ⟨f, rfl⟩ := pS hf
  show (jL 600).b _ _ ((jL 600).L f) some = _
  have e2 := ltF k C.length (by omega)
  have d1 : C.drop k = [] := List.drop_eq_nil_of_le (by omega)
  simp only [jL]
  simp only [e2, d1, atE, List.flatMap_nil, List.append_nil]
 | succ d ih =>
  intro k f acc hk hf ha
  obtain ⟨f, rfl⟩ := pS hf
  have hkl : k < C.length := by omega
  have hx := hC.xs k hkl
  have hxl := hx.le
  have hn := zm9 C[k] s C[k].length
  have r1 := ih (k + 1) f (acc ++ atN C[k] s C[k].length) (by omega) (by omega) (by simp; omega)
  have h17 := zCw hx hm (zj C) (C.length : Int) (k : Int) s (acc.map zl) (by simp; omega) C[k].length 600 (Nat.le_refl _) (by omega)
  have hd : atE (C.drop k) s = atN C[k] s C[k].length ++ atE (C.drop (k + 1)) s := by
   rw [List.drop_eq_getElem_cons hkl]; rfl
  rw [hd, <- List.append_assoc]
  show (jL 600).b _ _ ((jL 600).L f) some = _
  generalize (jL 600).L f = Lf at r1 |-
  have e2 := ltT k C.length (by omega)
  have h0 := nnI k
  have hbk : zxI 600 (C[k].map zo) = some (C[k].map zo) := rfl
  rw [List.map_append] at r1
  simp only [jL]
  simp only [e2, h0, if_true, Int.toNat_natCast, zC C k hkl, rd6, hbk, List.length_map, zlu, h17, Zk k (by omega)]
  exact r1
theorem zCy {C : qC} (hC : CG mxT 100 500 C) (hW : Wf C) (s : Int) : zew 600 (zj C, s) = some ((atE C s).map zl) := by
 have hle := hC.le
 have hV := za1 hW
 rw [decide_eq_true hC] at hV
 have h1 := zyU hC (Nat.le_refl _) (Nat.le_refl _) s C.length 0 600 [] (by omega) (by omega) (by simp)
 replace h1 : (jL 600).L 600 (zj C, (C.length : Int), 0, s, []) = _ := h1
 rw [List.drop_zero, List.nil_append] at h1
 simp only [zew, FSpec.d, zoM, hV, Bool.not_true, zq, zq9, h1]
def lsN (x : List RT7) (s : Int) : Nat -> Int
 | 0 => -1
 | m + 1 => if atV (x.getD m (0, 0, nob, 0, zE)) <= s then (m : Int) else lsN x s m
theorem zsb (x : List RT7) (s : Int) : ∀ m, m <= x.length -> (lsN x s m = -1 /\ atN x s m = []) \/ ∃ j, ∃ h : j < x.length, lsN x s m = (j : Int) /\ atN x s m = if jc (kdV x[j]) = true then [evV x[j]] else []
 | 0, _ => .inl ⟨rfl, rfl⟩
 | m + 1, hm => by
  have hml : m < x.length := by omega
  simp only [lsN, atN, JH _ hml, List.getElem?_eq_getElem hml]
  by_cases h : atV x[m] <= s
  ·simp only [h, if_true]
   exact .inr ⟨m, hml, rfl, rfl⟩
  ·simp only [h, if_false]
   exact zsb x s m (by omega)
theorem zzZ {C : qC} (hC : CG mxT 100 500 C) (s : Int) (i : Nat) (hi : i < C.length) (n : Nat) (cs : List AV) (hcs : cs.map dat0 = cs) : zlA 600 (s, n, (i : Int), -1, 0, zj C, cs) = some (s, n, (i : Int), lsN C[i] s C[i].length, zj C, cs) := by
 have hxl := (hC.xs i hi).le
 have h0 := nnI i
 have := jT (l := zaC 600) (S := Unit) (W := Int) (n := C[i].length) (λ k _ b => b = lsN C[i] s k) (λ _ _ => ()) (λ k _ b => (s, n, (i : Int), b, (k : Int), zj C, cs)) (λ _ b => (s, n, (i : Int), b, zj C, cs)) (λ _ b hb Lf => by
  have e2 := ltF C[i].length C[i].length (by omega)
  simp only [zaC, h0, if_true, Int.toNat_natCast, zC C i hi, zc1, zgn, List.length_map, e2, hcs]) (λ k _ b hk hb Lf => by
  subst hb
  have e2 := ltT k C[i].length (by omega)
  have e3 := nnI k
  have c1 : ((zo C[i][k]).drop 1)[0]? = some (.v (.int .i64 C[i][k].2.1)) := rfl
  simp only [zaC, h0, if_true, Int.toNat_natCast, zC C i hi, zc1, zgn, List.length_map, e2, e3, zbi C[i] k hk, c1, Zk k (by omega), hcs]
  by_cases h : C[i][k].2.1 <= s
  ·refine ⟨(k : Int), by simp only [lsN, JH _ hk, atV, h, if_true], ?_⟩
   simp only [decide_eq_true h]
   rfl
  ·refine ⟨lsN C[i] s k, by simp only [lsN, JH _ hk, atV, h, if_false], ?_⟩
   simp only [decide_eq_false h]
   rfl) C[i].length 0 600 () (-1) (by omega) (by omega) rfl
 obtain ⟨s', x', e1, h1, h2⟩ := this
 subst h1
 exact h2
theorem zph (C : qC) (s : Int) {k : Nat} (h : k < C.length) : atE (C.take (k + 1)) s = atE (C.take k) s ++ atN C[k] s C[k].length := by
 unfold atE
 rw [<- zak C h, List.flatMap_append]
 simp
theorem zrS (C : qC) (s : Int) : (atE C s).length <= C.length := by
 induction C with
 | nil => exact Nat.le_refl _
 | cons x C ih =>
  have := zm9 x s x.length
  have e : atE (x :: C) s = atN x s x.length ++ atE C s := rfl
  rw [e, List.length_append, List.length_cons]
  omega
theorem at_r {C : qC} (hC : CG mxT 100 500 C) (hW : Wf C) (s : Int) : zjF 600 (zj C, s) = some ((atE C s).map zl) := by
 have hle := hC.le
 have hV := Js hW
 rw [decide_eq_true hC] at hV
 have := jT (l := J8 600) (S := Unit) (W := List RT0) (n := C.length) (λ k _ a => a = atE (C.take k) s) (λ _ _ => ()) (λ k _ a => (a.length, s, (k : Int), zj C, fl zl a)) (λ _ a => (a.length, fl zl a)) (λ _ a ha Lf => by
  have e2 := ltF C.length C.length (by omega)
  simp only [J8, zq, e2, fl0]) (λ k _ a hk ha Lf => by
  have e2 := ltT k C.length (by omega)
  have h0 := nnI k
  have hal : a.length <= k := by
   rw [ha]
   have := zrS (C.take k) s
   rw [List.length_take] at this
   omega
  have r := zzZ hC s k hk a.length (fl zl a) (fl0 a)
  have hsn := zph C s hk
  rw [<- ha] at hsn
  refine ⟨_, hsn.symm, ?_⟩
  simp only [J8, zq, e2, hV, fl0, r]
  rcases zsb C[k] s C[k].length (Nat.le_refl _) with ⟨g1, g2⟩ | ⟨j, hj, g1, g2⟩
  ·have e3 : decide (lsN C[k] s C[k].length >= 0) = false := decide_eq_false (by omega)
   simp only [e3, g2, List.append_nil, Zk k (by omega)]
   rfl
  ·have e3 : decide (lsN C[k] s C[k].length >= 0) = true := decide_eq_true (by omega)
   have hj0 := nnI j
   have hs := zoi 600 C[k][j]
   simp only [e3, g1, h0, hj0, if_true, Int.toNat_natCast, zC C k hk, zc1, zgn, zbi C[k] j hj, rd7, hs, g2]
   cases jc (kdV C[k][j]) with
   | false =>
    simp only [Bool.false_eq_true, if_false, List.append_nil, Zk k (by omega)]
    rfl
   | true =>
    have c4 : zeE ((zo C[k][j]).drop 4) = some (evV C[k][j]) := Zh _
    have b1 : (a.length * 25 <= (fl zl a).length /\ (a.length + 1) * 248 <= zd) := by rw [zAv]; unfold zd; omega
    have h1 := zDo a (evV C[k][j]) a.length rfl
    have l1 : (a ++ [evV C[k][j]]).length = a.length + 1 := by simp
    simp only [c4, List.length_cons, List.length_nil, Nat.zero_add, h1, fl0, if_true, Zk k (by omega), l1]
    exact if_pos b1) C.length 0 600 () [] (by omega) (by omega) rfl
 obtain ⟨s', x', e1, h1, h2⟩ := this
 rw [List.take_length] at h1
 subst h1
 replace h2 : zlB 600 (0, s, 0, zj C, []) = _ := h2
 have b1 : (atE C s).length * 25 <= (fl zl (atE C s)).length := by rw [zAv]; omega
 simp only [zjF, FSpec.d, zoN, h2, b1, if_true, Jh zl 25 zaa (λ _ => rfl) _ _ rfl]
theorem zCx {C : qC} (hC : ¬ CG mxT 100 500 C) (hW : Wf C) (s : Int) : zew 600 (zj C, s) = some [] /\ zjF 600 (zj C, s) = some [] := by
 have v1 := za1 hW
 have v2 := Js hW
 rw [decide_eq_false hC] at v1 v2
 refine ⟨by simp only [zew, FSpec.d, zoM, v1, Bool.not_false], ?_⟩
 have h : zlB 600 (0, s, 0, zj C, []) = some (0, []) := by
  show (J8 600).b _ _ ((J8 600).L 599) some = _
  simp only [J8, v2]
  split <;> rfl
 simp only [zjF, FSpec.d, zoN, h]
 rfl
noncomputable def atF (C : qC) (s : Int) : List RT0 := if CG mxT 100 500 C then atE C s else []
theorem zui {C : qC} (hW : Wf C) (s : Int) : zew 600 (zj C, s) = some ((atF C s).map zl) /\ zjF 600 (zj C, s) = some ((atF C s).map zl) := by
 unfold atF
 by_cases hC : CG mxT 100 500 C
 ·rw [if_pos hC]
  exact ⟨zCy hC hW s, at_r hC hW s⟩
 ·rw [if_neg hC]
  exact zCx hC hW s
theorem zrT {x : List RT7} (h : ∀ v ∈ x, WfV v) (s : Int) : ∀ m, ∀ a ∈ atN x s m, jj a
 | 0, a, ha => by cases ha
 | m + 1, a, ha => by
  simp only [atN] at ha
  split at ha
  ·rename_i v hv
   split at ha
   ·split at ha
    ·rw [List.mem_singleton.1 ha]
     exact (h v (List.mem_of_getElem? hv)).pk
    ·cases ha
   ·exact zrT h s m a ha
  ·cases ha
theorem zyT {C : qC} (hW : Wf C) (s : Int) : (∀ a ∈ atF C s, jj a) /\ (atF C s).length <= 500 := by
 have hle := hW.le
 unfold atF
 split
 ·refine ⟨λ a ha => ?_, by have := zrS C s; omega⟩
  obtain ⟨x, hx, ha⟩ := List.mem_flatMap.1 ha
  exact zrT (hW.vs x hx) s _ a ha
 ·exact ⟨λ a ha => (by cases ha), Nat.zero_le _⟩
theorem zpG {A : List RT0} (hA : A.length <= 500) (hp : ∀ a ∈ A, jj a) : zsR 600 (A.map zl, A.map zl) = some true := by
 have r := JO (l := zdA 600) (p := λ _ => True) (n := A.length) (λ k => (A.map zl, A.map zl, (k : Int))) (.inr ()) (.inl false) (λ Lf => by
  have e2 := ltF A.length A.length (by omega)
  simp only [zdA, List.length_map, e2]) (λ k hk Lf => by
  have e2 := ltT k A.length (by omega)
  have h0 := nnI k
  have hpk := hp A[k] (List.getElem_mem _)
  obtain ⟨b, q1, q2⟩ := zje A[k] A[k] hpk hpk
  rw [q2.2 rfl] at q1
  have c2 : zCt ((zl A[k]).drop 9) = some (zu A[k]) := rfl
  have e4 : eqP (nmE A[k]) (nmE A[k]) = true := Jf _
  refine .inl ⟨trivial, ?_⟩
  simp only [zdA, List.length_map, e2, h0, if_true, Int.toNat_natCast, ze9 A k hk, nm0, c2, e4, Bool.not_true, q1, Zk k (by omega)]
  rfl) 600 (by omega)
 replace r : zq7 600 (A.map zl, A.map zl, 0) = some (.inr ()) := r.trans (congrArg some (if_pos λ _ _ _ => trivial))
 have d0 : ∀ i : Int, (i != i) = false := λ i => by simp
 simp only [zsR, FSpec.d, zsS, List.length_map, d0, r]
theorem zcO (L : List Int) (hL : L.length < 600) : zgQ 600 (zg L, zg L) = some true := by
 have r := JO (l := zdE 600) (p := λ _ => True) (n := L.length) (λ k => (zg L, zg L, (L.length : Int), (k : Int))) (.inr ()) (.inl false) (λ Lf => by
  have e2 := ltF L.length L.length (by omega)
  simp only [zdE, e2]) (λ k hk Lf => by
  have e2 := ltT k L.length (by omega)
  have h0 := nnI k
  have g2 : ([I L[k]] : List AV)[0]? = some (AV.v (.int .i64 L[k])) := rfl
  have d0 : ∀ i : Int, (i != i) = false := λ i => by simp
  refine .inl ⟨trivial, ?_⟩
  simp only [zdE, e2, h0, if_true, Int.toNat_natCast, jB L k hk, g2, d0, Zk k (by omega)]
  rfl) 600 (by omega)
 replace r : zrc 600 (zg L, zg L, (L.length : Int), 0) = some (.inr ()) := r.trans (congrArg some (if_pos λ _ _ _ => trivial))
 have d0 : ∀ i : Int, (i != i) = false := λ i => by simp
 simp only [zgQ, FSpec.d, zsX, zZ, d0, r]
theorem zqj {C : qC} (hW : Wf C) (t : Int) : ∃ L : List Int, L.length < 600 /\ zoO 600 (zj C, t) = some (zg L) /\ zoQ 600 (zj C, t) = some (zg L) := by
 have v1 := za1 hW
 have v2 := Js hW
 by_cases hC : CG mxT 100 500 C
 case neg =>
  rw [decide_eq_false hC] at v1 v2
  refine ⟨[], by simp, by simp only [zoO, FSpec.d, zoP, v1, Bool.not_false]; rfl, ?_⟩
  have h : zlG 600 ([], t, 0, zj C) = some [] := by
   show (J9 600).b _ _ ((J9 600).L 599) some = _
   simp only [J9, v2]
   split <;> rfl
  simp only [zoQ, FSpec.d, zoR, h]
  rfl
 rw [decide_eq_true hC] at v1 v2
 have hle := hC.le
 have r1 := jT (l := zdF 600) (S := List Int) (W := Unit) (n := C.length) (λ k L _ => L.length <= k) (λ k L => if atV (lV C k) > t then L ++ [(k : Int)] else L) (λ k L _ => (zg L, zj C, t, (C.length : Int), (k : Int))) (λ L _ => zg L) (λ L _ _ Lf => by
  have e2 := ltF C.length C.length (by omega)
  simp only [zdF, e2]) (λ k L _ hk hl Lf => by
  have e2 := ltT k C.length (by omega)
  have h0 := nnI k
  have hx := hC.xs k hk
  have hla := zi1 C[k] hx.ne (by have := hx.le; omega)
  rw [<- znL hk hx.ne] at hla
  have b1 : ((zg L).length + 1) * 8 <= zd := by rw [zZ]; unfold zd; omega
  refine ⟨(), by show (if _ then _ else _ : List Int).length <= _; split <;> (try simp) <;> omega, ?_⟩
  simp only [zdF, e2, h0, if_true, Int.toNat_natCast, zC C k hk, rd6, hla, List.length_cons, List.length_nil, Nat.zero_add, b1, jA, Zk k (by omega)]
  by_cases h : (lV C k).2.1 > t
  ·rw [decide_eq_true h, if_pos h]; rfl
  ·rw [decide_eq_false h, if_neg h]) C.length 0 600 [] () (by omega) (by omega) (Nat.le_refl _)
 have r2 := jT (l := J9 600) (S := List Int) (W := Unit) (n := C.length) (λ k L _ => L.length <= k) (λ k L => if atV (lV C k) > t then L ++ [(k : Int)] else L) (λ k L _ => (zg L, t, (k : Int), zj C)) (λ L _ => zg L) (λ L _ _ Lf => by
  have e2 := ltF C.length C.length (by omega)
  simp only [J9, zq, e2]) (λ k L _ hk hl Lf => by
  have e2 := ltT k C.length (by omega)
  have h0 := nnI k
  have hx := hC.xs k hk
  have hla := zcS C[k] hx.ne (by have := hx.le; omega)
  rw [<- znL hk hx.ne] at hla
  have b1 : ((zg L).length + 1) * 8 <= zd := by rw [zZ]; unfold zd; omega
  refine ⟨(), by show (if _ then _ else _ : List Int).length <= _; split <;> (try simp) <;> omega, ?_⟩
  simp only [J9, zq, e2, v2, h0, if_true, Int.toNat_natCast, zC C k hk, rd6, hla, List.length_cons, List.length_nil, Nat.zero_add, b1, jA, Zk k (by omega)]
  by_cases h : (lV C k).2.1 > t
  ·rw [decide_eq_true h, if_pos h]; rfl
  ·rw [decide_eq_false h, if_neg h]) C.length 0 600 [] () (by omega) (by omega) (Nat.le_refl _)
 obtain ⟨L1, -, e1, g1, h1⟩ := r1
 obtain ⟨L2, -, e2, g2, h2⟩ := r2
 obtain rfl : L1 = L2 := e1.trans e2.symm
 replace h1 : zre 600 ([], zj C, t, (C.length : Int), 0) = _ := h1
 replace h2 : zlG 600 ([], t, 0, zj C) = _ := h2
 refine ⟨L1, by omega, ?_, ?_⟩
 ·simp only [zoO, FSpec.d, zoP, v1, Bool.not_true, zq, h1]
 ·simp only [zoQ, FSpec.d, zoR, h2]
end
section
open Classical
theorem Jg {α : Type} {x y : List α} (h : x.length = y.length) : All (λ k => x[k]? = y[k]?) 0 x.length ↔ x = y :=
 ⟨λ a => List.ext_getElem? λ k => by
  by_cases hk : k < x.length
  ·exact a k (Nat.zero_le _) hk
  ·rw [List.getElem?_eq_none (by omega), List.getElem?_eq_none (by omega)], λ e k _ _ => by rw [e]⟩
theorem neI (a b : Int) : ((a != b) = true /\ (a == b) = false /\ a ≠ b) \/ ((a != b) = false /\ (a == b) = true /\ a = b) := by
 by_cases h : a = b
 ·exact .inr ⟨by simp [h], by simp [h], h⟩
 ·exact .inl ⟨by simp [h], by simp [h], h⟩
theorem neS (a b : ByteArray) : ((a.toList == b.toList) = false /\ a ≠ b) \/ ((a.toList == b.toList) = true /\ a = b) := by
 by_cases h : a = b
 ·exact .inr ⟨by simp [h], h⟩
 ·exact .inl ⟨by simp; exact λ e => h (zrV e), h⟩
theorem neL {a b : Nat} (h : a ≠ b) : ((a : Int) != (b : Int)) = true /\ ∀ c : Nat, ((c : Int) != (c : Int)) = false := ⟨by simp; omega, λ c => by simp⟩
section
variable {x y : List RT7} (hx : ∀ v ∈ x, WfV v) (hy : ∀ v ∈ y, WfV v) (lx : x.length <= 100) (hl : x.length = y.length)
include hx hy lx hl
theorem zzX (i : Int) (X Y : List (List AV)) : zlg 600 (x.map zo, y.map zo, i, 0, X, Y) = some (if All (λ k => x[k]? = y[k]?) 0 x.length then .inr (i, X, Y) else .inl (false, i, X, Y)) :=
 JO (l := zau 600) (λ k => (x.map zo, y.map zo, i, (k : Int), X, Y)) _ _ (λ Lf => by
  have e2 := ltF x.length x.length (by omega)
  simp only [zau, List.length_map, e2]) (λ k hk Lf => by
  have hky : k < y.length := by omega
  have e2 := ltT k x.length (by omega)
  have h0 := nnI k
  have h1 := (hx x[k] (List.getElem_mem _)).pk
  have h2 := (hy y[k] (List.getElem_mem _)).pk
  rw [List.getElem?_eq_getElem hk, List.getElem?_eq_getElem hky]
  have g1 := zbi x k hk
  have g2 := zbi y k hky
  generalize x[k] = v at h1 g1 |-
  generalize y[k] = w at h2 g2 |-
  have c0 : ∀ v, ((zo v).drop 0)[0]? = some (.v (.int .i64 v.1)) := λ _ => rfl
  have c1 : ∀ v, ((zo v).drop 1)[0]? = some (.v (.int .i64 v.2.1)) := λ _ => rfl
  have c2 : ∀ v, ((zo v).drop 2)[0]? = some (.v (.string v.2.2.1)) := λ _ => rfl
  have c3 : ∀ v, ((zo v).drop 3)[0]? = some (.v (.int .i64 v.2.2.2.1)) := λ _ => rfl
  have c4 : ∀ v, zeE ((zo v).drop 4) = some (evV v) := λ _ => Zh _
  obtain ⟨b, q1, q2⟩ := zhH (evV v) (evV w) h1 h2
  obtain ⟨v1, v2, v3, v4, v5⟩ := v
  obtain ⟨w1, w2, w3, w4, w5⟩ := w
  simp only [zau, List.length_map, e2, h0, if_true, Int.toNat_natCast, g1, g2, c0, c1, c2, c3, c4, q1]
  rcases neI v1 w1 with ⟨e, -, h⟩ | ⟨e, -, rfl⟩
  ·simp only [e]
   exact .inr ⟨λ g => h (by injection g with g; injection g), trivial⟩
  rcases neI v2 w2 with ⟨e', -, h⟩ | ⟨e', -, rfl⟩
  ·simp only [e, e']
   exact .inr ⟨λ g => h (by injection g with g; injection g with _ g; injection g), trivial⟩
  rcases neS v3 w3 with ⟨e2', h⟩ | ⟨e2', rfl⟩
  ·simp only [e, e', e2', Bool.not_false]
   exact .inr ⟨λ g => h (by injection g with g; injection g with _ g; injection g with _ g; injection g), trivial⟩
  rcases neI v4 w4 with ⟨e3', -, h⟩ | ⟨e3', -, rfl⟩
  ·simp only [e, e', e2', e3', Bool.not_true]
   exact .inr ⟨λ g => h (by injection g with g; injection g with _ g; injection g with _ g; injection g with _ g; injection g), trivial⟩
  simp only [e, e', e2', e3', Bool.not_true, Zk k (by omega)]
  cases b with
  | true =>
   have := q2.1 rfl
   exact .inl ⟨by rw [show v5 = w5 from this], rfl⟩
  | false => exact .inr ⟨λ g => (by cases q2.2 (by injection g with g; injection g with _ g; injection g with _ g; injection g with _ g; injection g)), rfl⟩) 600 (by omega)
end
section
variable {C D : qC} (hC : Wf C) (hD : Wf D)
include hC hD
theorem zsj : zoI 600 (zj C, zj D) = some (decide (C = D)) := by
 have hle := hC.le
 simp only [zoI, FSpec.d, zsL, zq]
 by_cases hl : C.length = D.length
 case neg =>
  rw [(neL hl).1, decide_eq_false λ h => hl (by rw [h])]
 have r : zq4 600 (0, zj C, zj D) = some (if All (λ k => C[k]? = D[k]?) 0 C.length then .inr () else .inl false) :=
  JO (l := zdt 600) (λ k => ((k : Int), zj C, zj D)) _ _ (λ Lf => by
   have e2 := ltF C.length C.length (by omega)
   simp only [zdt, zq, e2]) (λ k hk Lf => by
   have hkd : k < D.length := by omega
   have e2 := ltT k C.length (by omega)
   have h0 := nnI k
   rw [List.getElem?_eq_getElem hk, List.getElem?_eq_getElem hkd]
   simp only [zdt, zq, e2, h0, if_true, Int.toNat_natCast, zC C k hk, zC D k hkd, zc1, zgn, List.length_map]
   by_cases hxy : C[k].length = D[k].length
   case neg =>
    rw [(neL hxy).1]
    exact .inr ⟨λ h => hxy (by injection h with h; rw [h]), rfl⟩
   have r := zzX (hC.vs _ (List.getElem_mem hk)) (hD.vs _ (List.getElem_mem hkd)) (hC.xs _ (List.getElem_mem hk)) hxy (k : Int) (zj C) (zj D)
   have d0 : ∀ c : Nat, ((c : Int) != (c : Int)) = false := λ c => by simp
   rw [hxy, d0]
   simp only [r]
   by_cases h : C[k] = D[k]
   ·rw [if_pos ((Jg hxy).2 h)]
    exact .inl ⟨by rw [h], by simp only [Zk k (by omega)]; rfl⟩
   ·rw [if_neg λ g => h ((Jg hxy).1 g)]
    exact .inr ⟨λ g => h (by injection g), rfl⟩) 600 (by omega)
 have d0 : ∀ c : Nat, ((c : Int) != (c : Int)) = false := λ c => by simp
 rw [hl, d0]
 rw [hl] at r
 simp only [r]
 by_cases h : C = D
 ·rw [if_pos (hl ▸ (Jg hl).2 h), decide_eq_true h]
 ·rw [if_neg λ g => h ((Jg hl).1 (hl.symm ▸ g)), decide_eq_false h]
end
theorem p64 {v w : RT7} (h1 : jj (evV v)) (h2 : jj (evV w)) : ztx 600 (v, w) = some (decide (v = w)) := by
 obtain ⟨b, q1, q2⟩ := ze0 (evV v) (evV w) h1 h2
 obtain ⟨v1, v2, v3, v4, v5⟩ := v
 obtain ⟨w1, w2, w3, w4, w5⟩ := w
 replace q1 : zfO 600 (zm (v1, v2, v3, v4, v5), zm (w1, w2, w3, w4, w5)) = some b := q1
 simp only [ztx, FSpec.d, zty, q1]
 rcases neI v1 w1 with ⟨-, e, h⟩ | ⟨-, e, rfl⟩
 ·rw [decide_eq_false λ g => h (by injection g)]
  simp only [e]
 rcases neI v2 w2 with ⟨-, e', h⟩ | ⟨-, e', rfl⟩
 ·rw [decide_eq_false λ g => h (by injection g with _ g; injection g)]
  simp only [e, e']
 rcases neS v3 w3 with ⟨e2', h⟩ | ⟨e2', rfl⟩
 ·rw [decide_eq_false λ g => h (by injection g with _ g; injection g with _ g; injection g)]
  simp only [e, e', e2']
 rcases neI v4 w4 with ⟨-, e3', h⟩ | ⟨-, e3', rfl⟩
 ·rw [decide_eq_false λ g => h (by injection g with _ g; injection g with _ g; injection g with _ g; injection g)]
  simp only [e, e', e2', e3']
 simp only [e, e', e2', e3']
 cases b with
 | true => rw [decide_eq_true (by rw [show v5 = w5 from q2.1 rfl])]
 | false => rw [decide_eq_false λ g => by cases q2.2 (by injection g with _ g; injection g with _ g; injection g with _ g; injection g)]
theorem p63 {x y : List RT7} (hx : ∀ v ∈ x, WfV v) (hy : ∀ v ∈ y, WfV v) (lx : x.length <= 100) : ztv 600 (x.map zo, y.map zo) = some (decide (x = y)) := by
 simp only [ztv, FSpec.d, ztw, List.length_map]
 by_cases hl : x.length = y.length
 case neg =>
  rw [(neL hl).1, decide_eq_false λ h => hl (by rw [h])]
 have r : zrr 600 (y.map zo, x.map zo, (x.length : Int), 0) = some (if All (λ k => x[k]? = y[k]?) 0 x.length then .inr () else .inl false) :=
  JO (l := zdR 600) (λ k => (y.map zo, x.map zo, (x.length : Int), (k : Int))) _ _ (λ Lf => by
   have e2 := ltF x.length x.length (by omega)
   simp only [zdR, e2]) (λ k hk Lf => by
   have hky : k < y.length := by omega
   have e2 := ltT k x.length (by omega)
   have h0 := nnI k
   have h1 := (hx x[k] (List.getElem_mem _)).pk
   have h2 := (hy y[k] (List.getElem_mem _)).pk
   rw [List.getElem?_eq_getElem hk, List.getElem?_eq_getElem hky]
   simp only [zdR, e2, h0, if_true, Int.toNat_natCast, zbi x k hk, zbi y k hky, rd7, p64 h1 h2]
   by_cases h : x[k] = y[k]
   ·rw [decide_eq_true h]
    exact .inl ⟨by rw [h], by simp only [Bool.not_true, Zk k (by omega)]; rfl⟩
   ·rw [decide_eq_false h]
    exact .inr ⟨λ g => h (by injection g), rfl⟩) 600 (by omega)
 have d0 : ∀ c : Nat, ((c : Int) != (c : Int)) = false := λ c => by simp
 rw [show ((x.length : Int) != (y.length : Int)) = false by rw [hl]; exact d0 _]
 simp only [r]
 by_cases h : x = y
 ·rw [if_pos ((Jg hl).2 h), decide_eq_true h]
 ·rw [if_neg λ g => h ((Jg hl).1 g), decide_eq_false h]
theorem zAb {C D : qC} (hC : Wf C) (hD : Wf D) : zsU 600 (zj C, zj D) = some (decide (C = D)) := by
 have hle := hC.le
 have key : ztr 600 (zj C, zj D) = some (decide (C = D)) := by
  simp only [ztr, FSpec.d, zts, zq]
  by_cases hl : C.length = D.length
  case neg =>
   rw [(neL hl).1, decide_eq_false λ h => hl (by rw [h])]
  have r : zrp 600 (zj D, zj C, (C.length : Int), 0) = some (if All (λ k => C[k]? = D[k]?) 0 C.length then .inr () else .inl false) :=
   JO (l := zdQ 600) (λ k => (zj D, zj C, (C.length : Int), (k : Int))) _ _ (λ Lf => by
    have e2 := ltF C.length C.length (by omega)
    simp only [zdQ, e2]) (λ k hk Lf => by
    have hkd : k < D.length := by omega
    have e2 := ltT k C.length (by omega)
    have h0 := nnI k
    have r := p63 (hC.vs _ (List.getElem_mem hk)) (hD.vs _ (List.getElem_mem hkd)) (hC.xs _ (List.getElem_mem hk))
    replace r : ztt 600 (C[k].map zo, D[k].map zo) = some (decide (C[k] = D[k])) := by
     simp only [ztt, FSpec.d, ztu, r]
    rw [List.getElem?_eq_getElem hk, List.getElem?_eq_getElem hkd]
    simp only [zdQ, e2, h0, if_true, Int.toNat_natCast, zC C k hk, zC D k hkd, rd6, r]
    by_cases h : C[k] = D[k]
    ·rw [decide_eq_true h]
     exact .inl ⟨by rw [h], by simp only [Bool.not_true, Zk k (by omega)]; rfl⟩
    ·rw [decide_eq_false h]
     exact .inr ⟨λ g => h (by injection g), rfl⟩) 600 (by omega)
  have d0 : ∀ c : Nat, ((c : Int) != (c : Int)) = false := λ c => by simp
  rw [show ((C.length : Int) != (D.length : Int)) = false by rw [hl]; exact d0 _]
  simp only [r]
  by_cases h : C = D
  ·rw [if_pos ((Jg hl).2 h), decide_eq_true h]
  ·rw [if_neg λ g => h ((Jg hl).1 g), decide_eq_false h]
 simp only [zsU, FSpec.d, zsV, key]
end
section
open Classical
def zkk (L : List (qC)) : List (List AV) := L.map λ C => [AV.list 1 (zj C) none]
theorem zoc (L : List (qC)) (k : Nat) (h : k < L.length) : (zkk L)[k]? = some (zyO (zj L[k], ())) := by
 simp [zkk, h]; rfl
def zqh (L : List (List RT0)) : List (List AV) := L.map λ A => [AV.list 25 (A.map zl) none]
theorem zoe (L : List (List RT0)) (k : Nat) (h : k < L.length) : (zqh L)[k]? = some [AV.list 25 (L[k].map zl) none] := by simp [zqh, h]
theorem zCU (xs : List (List AV)) : Zf 25 (AV.list 25 xs none) = some xs := by simp [Zf]
structure WfP (C : qC) : Prop where
 wf : Wf C
 le : C.length <= 63
 xs : ∀ x ∈ C, x.length < 100
section
variable {C : qC} (hC : WfP C) (ev L3 ts : List (List AV)) (now t : Int) (a b : Int) (good : List (List AV))
include hC
theorem zzR (m c d : Int) (xs : List (List AV)) (p : Int) (Q : List (List RT0)) (hQ : ∀ A ∈ Q, A.length <= 100 /\ ∀ e ∈ A, jj e) (lQ : Q.length <= 10) : zme 600 (ev, L3, ts, zqh Q, now, t, m, a, b, c, d, (Q.length : Int), 0, good, zj C, xs, p) = some (.inr (ev, L3, ts, now, t, a, b, c, d, good, zj C, xs, p)) := by
 have hle := hC.le
 have r := JO (l := zdO 600) (p := λ _ => True) (n := Q.length) (λ k => (ev, L3, ts, zqh Q, now, t, m, a, b, c, d, (Q.length : Int), (k : Int), good, zj C, xs, p)) (.inr (ev, L3, ts, now, t, a, b, c, d, good, zj C, xs, p)) (.inl (ev, L3, ts, now, false, t, a, b, c, d, good, zj C, xs, p)) (λ Lf => by
  have e2 := ltF Q.length Q.length (by omega)
  simp only [zdO, e2]) (λ k hk Lf => by
  refine .inl ⟨trivial, ?_⟩
  have e2 := ltT k Q.length (by omega)
  have h0 := nnI k
  obtain ⟨lA, hA⟩ := hQ Q[k] (List.getElem_mem _)
  obtain ⟨D, l, y, g1, g2, hD, hl, -⟩ := zjd hC.wf hC.le hC.xs lA hA m
  have g3 := zsj hD hD
  rw [decide_eq_true rfl] at g3
  have g4 := zcO l (by omega)
  have d0 : (y != y) = false := by simp
  have v2 := Js hC.wf
  have v4 := zpF (A := Q[k]) (by omega) hA
  have c0 : ([AV.list 25 (Q[k].map zl) none] : List AV)[0]? = some (AV.list 25 (Q[k].map zl) none) := rfl
  simp only [zdO, e2, h0, if_true, Int.toNat_natCast, zoe Q k hk, c0, zCU, g1, g2, g3, g4, d0, Bool.not_true, v2, v4]
  by_cases hG : CG mxT 100 500 C
  ·rw [decide_eq_true hG]
   by_cases hE : All (EP Q[k]) 0 Q[k].length
   ·rw [decide_eq_true hE]
    obtain ⟨f1, f2, f3⟩ := zpJ hC.wf hC.le lA hA hG hE
    have f4 := zcO (zaq C Q[k]) (by omega)
    simp only [f1, f2, f4, Bool.not_true, Zk k (by omega)]
    rfl
   ·rw [decide_eq_false hE]
    simp only [Zk k (by omega)]
    rfl
  ·rw [decide_eq_false hG]
   simp only [Zk k (by omega)]
   rfl) 600 (by omega)
 exact r.trans (congrArg some (if_pos λ _ _ _ => trivial))
theorem zzs (A : List RT0) (lA : A.length <= 100) (hA : ∀ e ∈ A, jj e) (T : List Int) (lT : T.length <= 10) {xs : List Int} {p : Int} (D : Sc xs p) : ∃ p', Sc xs p' /\ zmd 600 (A.map zl, L3, zg T, now, t, a, b, (T.length : Int), 0, good, zj C, zg xs, p) = some (.inr (A.map zl, L3, now, t, a, b, good, zg xs, p')) := by
 have := jT (l := zdN 600) (S := Unit) (W := Int) (n := T.length) (λ _ _ p => Sc xs p) (λ _ _ => ()) (λ k _ p => (A.map zl, L3, zg T, now, t, a, b, (T.length : Int), (k : Int), good, zj C, zg xs, p)) (λ _ p => .inr (A.map zl, L3, now, t, a, b, good, zg xs, p)) (λ _ p D Lf => by
  have e2 := ltF T.length T.length (by omega)
  simp only [zdN, e2]) (λ k _ p hk D Lf => by
  have e2 := ltT k T.length (by omega)
  have h0 := nnI k
  obtain ⟨a1, a2⟩ := zui hC.wf T[k]
  obtain ⟨a3, a4⟩ := zyT hC.wf T[k]
  have a5 := zpG a4 a3
  obtain ⟨L, s1, s2, s3⟩ := zqj hC.wf T[k]
  have s4 := zcO L s1
  obtain ⟨B, p', g4, l4, v4, D4⟩ := znq 4 (by omega) D
  replace g4 : zfH 600 (4, zg xs, p) = some (B.map zl, zg xs, p') := g4
  have q := zzR hC (A.map zl) L3 (zg T) now t a b good T[k] (T.length : Int) (k : Int) (zg xs) p' [A, B] (λ E hE => by
   rcases List.mem_cons.1 hE with rfl | hE
   ·exact ⟨lA, hA⟩
   ·rw [List.mem_singleton.1 hE]
    exact ⟨by omega, λ e he => (v4.evn (by omega) e he).pk⟩) (by simp)
  replace q : zme 600 (A.map zl, L3, zg T, [[AV.list 25 (A.map zl) none], [AV.list 25 (B.map zl) none]], now, t, T[k], a, b, (T.length : Int), (k : Int), (([[AV.list 25 (A.map zl) none], [AV.list 25 (B.map zl) none]] : List (List AV)).length : Int), 0, good, zj C, zg xs, p') = _ := q
  have g2 : ([I T[k]] : List AV)[0]? = some (AV.v (.int .i64 T[k])) := rfl
  refine ⟨p', D4, ?_⟩
  simp only [zdN, e2, h0, if_true, Int.toNat_natCast, jB T k hk, g2, a1, a2, a5, s2, s3, s4, Bool.not_true, g4, q, Zk k (by omega)]
  rfl) T.length 0 600 () p (by omega) (by omega) D
 obtain ⟨-, p', -, h1, h2⟩ := this
 exact ⟨p', h1, h2⟩
end
theorem zyZ (Y : List (qC)) (hY : ∀ C ∈ Y, WfP C) (lY : Y.length <= 10) {G : qC} (hG : Wf G) (A : List RT0) (lA : A.length <= 100) (hA : ∀ e ∈ A, jj e) (now t : Int) {xs : List Int} {p : Int} (D : Sc xs p) : zmc 600 (A.map zl, zkk Y, now, t, (Y.length : Int), 0, zj G, zg xs, p) = some (.inr ()) := by
 have := jT (l := zdM 600) (S := Unit) (W := Int) (n := Y.length) (λ _ _ p => Sc xs p) (λ _ _ => ()) (λ k _ p => (A.map zl, zkk Y, now, t, (Y.length : Int), (k : Int), zj G, zg xs, p)) (λ _ p => .inr ()) (λ _ p D Lf => by
  have e2 := ltF Y.length Y.length (by omega)
  simp only [zdM, e2]) (λ k _ p hk D Lf => by
  have e2 := ltT k Y.length (by omega)
  have h0 := nnI k
  have hC := hY Y[k] (List.getElem_mem _)
  have v1 := za1 hC.wf
  have v2 := Js hC.wf
  have v3 := zAb hC.wf hG
  have v4 := zsj hC.wf hG
  have d0 : ∀ b : Bool, (!(b == b)) = false := λ b => by cases b <;> rfl
  obtain ⟨z, p1, g1, m1, D1⟩ := zar 600 (n := 60) (by omega) D
  obtain ⟨p2, D2, q⟩ := zzs hC (zkk Y) now t (Y.length : Int) (k : Int) (zj G) A lA hA [now, t, i64 (t - z), -1] (by simp) D1
  replace q : zmd 600 (A.map zl, zkk Y, [[AV.v (.int .i64 now)], [AV.v (.int .i64 t)], [AV.v (.int .i64 (i64 (t - z)))], [AV.v (.int .i64 (-1))]], now, t, (Y.length : Int), (k : Int), (([[AV.v (.int .i64 now)], [AV.v (.int .i64 t)], [AV.v (.int .i64 (i64 (t - z)))], [AV.v (.int .i64 (-1))]] : List (List AV)).length : Int), 0, zj G, zj Y[k], zg xs, p1) = _ := q
  refine ⟨p2, D2, ?_⟩
  simp only [zdM, e2, h0, if_true, Int.toNat_natCast, zoc Y k hk, zpe, v1, v2, v3, v4, d0, g1, q, Zk k (by omega)]
  rfl) Y.length 0 600 () p (by omega) (by omega) D
 obtain ⟨-, p', -, h1, h2⟩ := this
 exact h2
theorem zvo {C : qC} (hW : Wf C) (hs : smC C = true) : WfP C := by
 unfold smC at hs
 rw [Bool.and_eq_true, decide_eq_true_iff] at hs
 refine ⟨hW, by omega, λ x hx => ?_⟩
 have := List.all_eq_true.1 hs.1 x hx
 unfold smX at this
 rw [Bool.and_eq_true] at this
 have h2 := this.1
 simp at h2
 omega
theorem zgx {C : qC} (hS : Sz C) (hC : ∀ x ∈ C, ∀ v ∈ x, Raw (evV v) /\ (byV v).size <= 9223372036854775807) {A : List RT0} (lA : A.length <= 9223372036854775807) (hA : ∀ e ∈ A, Raw e) (now : Int) (l : List Int) : zDf 600 (zj C, A.map zl, now, zg l) = some true := by
 obtain ⟨n1, D⟩ := zzz 600 l
 have hs := zqq hS
 have he := zoj lA
 have ha := zpj
 simp only [zDf, FSpec.d, zBB]
 cases hc : smC C with
 | false =>
  rw [hc] at hs
  simp only [hs, Bool.not_false, ha]
 | true =>
 rw [hc] at hs
 cases hy : smA A with
 | false =>
  rw [hy] at he
  simp only [hs, he, Bool.not_true, Bool.not_false, ha]
 | true =>
 rw [hy] at he
 have hy' := hy
 unfold smA at hy'
 rw [Bool.and_eq_true, decide_eq_true_iff] at hy'
 have hpk : ∀ e ∈ A, jj e := λ e h => (hA e h).pk (List.all_eq_true.1 hy'.1 e h)
 obtain ⟨v, p1, g1, m1, D1⟩ := zar 600 (n := 8) (by omega) D
 obtain ⟨m, rfl⟩ : ∃ m : Nat, v = (m : Int) := ⟨v.toNat, by omega⟩
 obtain ⟨G, t, p2, g2, D2, hG⟩ := znC D1 m (by omega)
 have hGW := hG.wf
 have hGl := hG.le
 have hGx := hG.xs
 obtain ⟨B, p3, g3, hB, D3, sB⟩ := zpm hGW hG.ne D2
 have r := zyZ [C, G, B] (λ Y hY => by
  simp only [List.mem_cons, List.not_mem_nil, or_false] at hY
  rcases hY with rfl | rfl | rfl
  ·exact zvo (zz1 hC hc) hc
  ·exact ⟨hGW, by omega, λ x hx => by have := hGx x hx; omega⟩
  ·exact ⟨hB, by have := sB.1; omega, λ x hx => by have := sB.2 m hGx x hx; omega⟩) (by simp) hGW A (by omega) hpk now t D3
 replace r : zmc 600 (A.map zl, [[AV.list 1 (zj C) none], [AV.list 1 (zj G) none], [AV.list 1 (zj B) none]], now, t, (([[AV.list 1 (zj C) none], [AV.list 1 (zj G) none], [AV.list 1 (zj B) none]] : List (List AV)).length : Int), 0, zj G, zg (l.take 2000), p3) = _ := r
 simp only [hs, he, Bool.not_true, n1, g1, g2, g3, r, ha]
end
section
open Go.ChangeShapes Go.WideShapes Go.ChangeAt Go.RowKit Go.Deep
inductive Leaf where
 | int (k : IntKind)
 | str
 | bool
 | sl (t : TypeId)
 deriving DecidableEq
def AllOk (R : Leaf -> Value -> Prop) : List Leaf -> List Value -> Prop
 | [], [] => True
 | l :: ls, v :: vs => R l v /\ AllOk R ls vs
 | _, _ => False
theorem AllOk.cons {R : Leaf -> Value -> Prop} {l : Leaf} {ls : List Leaf} {cs : List Value} (h : AllOk R (l :: ls) cs) : ∃ v vs, cs = v :: vs /\ R l v /\ AllOk R ls vs := by
 match cs, h with
 | v :: vs, h => exact ⟨v, vs, rfl, h.1, h.2⟩
theorem AllOk.nil {R : Leaf -> Value -> Prop} {cs : List Value} (h : AllOk R [] cs) : cs = [] := by
 match cs, h with
 | [], _ => rfl
theorem AllOk.len {R : Leaf -> Value -> Prop} : ∀ {ls : List Leaf} {cs : List Value}, AllOk R ls cs -> cs.length = ls.length
 | [], [], _ => rfl
 | _ :: _, _ :: _, h => by simp [AllOk.len h.2]
 | [], _ :: _, h => h.elim
 | _ :: _, [], h => h.elim
theorem AllOk.append {R : Leaf -> Value -> Prop} : ∀ {l1 l2 : List Leaf} {c1 c2 : List Value}, AllOk R l1 c1 -> AllOk R l2 c2 -> AllOk R (l1 ++ l2) (c1 ++ c2)
 | [], _, [], _, _, h => h
 | _ :: _, _, _ :: _, _, h, h2 => ⟨h.1, AllOk.append h.2 h2⟩
 | [], _, _ :: _, _, h, _ => h.elim
 | _ :: _, _, [], _, h, _ => h.elim
section
variable (P : Program)
def zcD (rec : TypeId -> Option (List Leaf)) : List Field -> Nat -> Option (List Leaf)
 | [], _ => some []
 | f :: fs, off => if f.offset = off then
   match rec f.type with
   | some l => if P.cellsOf f.type = l.length then (zcD rec fs (off + l.length)).map (l ++ ·) else none
   | none => none
  else none
def zcT : Nat -> TypeId -> Option (List Leaf)
 | 0, _ => none
 | n + 1, t => match P.underlying t with
  | some (.int k) => some [.int k]
  | some .string => some [.str]
  | some .bool => some [.bool]
  | some (.slice _) => some [.sl t]
  | some (.struct fs) => match zcD P (zcT n) fs.toList 0 with
   | some ls => if P.cellsOf t = ls.length then some ls else none
   | none => none
  | _ => none
end
section
variable {H : Type} {enc : TypeId × Value -> H} {P : Program} {w : World} {base : Nat} {spare : Nat -> Bool} {held : Bool}
def js (enc : TypeId × Value -> H) (P : Program) (w : World) (base : Nat) (spare : Nat -> Bool) (held : Bool) : Leaf -> Value -> Prop
 | .int k, v => ∃ n, v = .int k n /\ (Lit.int k n).wf = true
 | .str, v => ∃ s : ByteArray, v = .string s /\ s.size <= maxLen
 | .bool, v => ∃ b, v = .bool b
 | .sl t, v => ∃ n y, DataW.trod enc P w base spare held n t [v] = some y
theorem zgb {rec : TypeId -> Option (List Leaf)} {R : Leaf -> Value -> Prop} {cs : List Value} : ∀ (fs : List Field) (off : Nat) (ls : List Leaf), zcD P rec fs off = some ls ->
  (∀ f ∈ fs, ∀ l, rec f.type = some l -> P.cellsOf f.type = l.length -> AllOk R l ((cs.drop f.offset).take l.length)) -> AllOk R ls ((cs.drop off).take ls.length)
 | [], off, ls, h, _ => by
  simp only [zcD, Option.some.injEq] at h
  subst h
  simp [AllOk]
 | f :: fs, off, ls, h, hf => by
  unfold zcD at h
  split at h
  ·rename_i ho
   split at h
   ·rename_i l hl
    split at h
    ·rename_i hc
     simp only [Option.map_eq_some_iff] at h
     obtain ⟨r, hr, rfl⟩ := h
     have h1 := hf f List.mem_cons_self l hl hc
     have h2 := zgb fs (off + l.length) r hr (λ g hg => hf g (List.mem_cons_of_mem _ hg))
     rw [List.length_append, List.take_add, List.drop_drop]
     rw [ho] at h1
     exact h1.append h2
    ·cases h
   ·cases h
  ·cases h
theorem J3 : ∀ (n : Nat) (t : TypeId) (ls : List Leaf) (fuel : Nat) (cs : List Value) (x : DataW H × List MemPlace), zcT P n t = some ls -> DataW.trod enc P w base spare held fuel t cs = some x -> AllOk (js enc P w base spare held) ls cs
 | 0, t, ls, fuel, cs, x, hl, _ => by simp [zcT] at hl
 | n + 1, t, ls, fuel, cs, x, hl, h => by
  unfold zcT at hl
  split at hl
  ·rename_i k hu
   obtain rfl : [Leaf.int k] = ls := by injection hl
   obtain ⟨m, rfl, -, hw⟩ := DataW.trod_int hu h
   exact ⟨⟨m, rfl, hw⟩, trivial⟩
  ·rename_i hu
   obtain rfl : [Leaf.str] = ls := by injection hl
   obtain ⟨s, rfl, -, hw⟩ := DataW.trod_string hu h
   exact ⟨⟨s, rfl, hw⟩, trivial⟩
  ·rename_i hu
   obtain rfl : [Leaf.bool] = ls := by injection hl
   obtain ⟨s, rfl, -⟩ := DataW.trod_bool hu h
   exact ⟨⟨s, rfl⟩, trivial⟩
  ·rename_i e hu
   obtain rfl : [Leaf.sl t] = ls := by injection hl
   have h2 := h
   rcases DataW.trod_slice hu h with ⟨rfl, -⟩ | ⟨a, len, cap, el, re, m, -, rfl, -⟩
   ·exact ⟨⟨fuel, x, h2⟩, trivial⟩
   ·exact ⟨⟨fuel, x, h2⟩, trivial⟩
  ·rename_i fs hu
   split at hl
   ·rename_i l hfl
    split at hl
    ·rename_i hc
     obtain rfl : l = ls := by injection hl
     obtain ⟨xs, m, rfl, -, hlen, hxl, hf⟩ := DataW.trod_struct hu h
     have := zgb (R := js enc P w base spare held) (cs := cs) fs.toList 0 l hfl (λ f hfm k hk hkc => by
      obtain ⟨i, hi, hif⟩ := List.getElem_of_mem hfm
      have h1 := hf i f (by rw [<- Array.getElem?_toList, List.getElem?_eq_getElem hi, hif])
      rw [List.getElem?_eq_getElem (by rw [hxl]; simpa using hi), hkc] at h1
      exact J3 n f.type k m _ _ hk h1)
     rw [List.drop_zero, <- hc, <- hlen, List.take_length] at this
     exact this
    ·cases hl
   ·cases hl
  ·cases hl
theorem zyR {r : Reach} {b0 n : Nat} {t : TypeId} {fs : Array Field} {v : Value} {d : DataW H} {p : List MemPlace} {ls : List Leaf} (hs : P.underlying t = some (.struct fs)) (hl : zcT P n t = some ls) (hv : Value.okWide P w r b0 t v) (h : DataW.Trod enc P w base spare held t v d p) :
  ∃ cs : List Value, v = .agg cs.toArray /\ AllOk (js enc P w base spare held) ls cs := by
 obtain ⟨cs, rfl, -⟩ := okWide_struct hs hv
 obtain ⟨fuel, hf⟩ := h
 exact ⟨cs.toList, by simp, J3 n t ls fuel _ _ hl hf⟩
theorem zqk {n fuel : Nat} {t e : TypeId} {cs : List Value} {x : DataW H × List MemPlace} {ls : List Leaf} (hs : P.underlying t = some (.slice e)) (hl : zcT P n e = some ls) (hc : P.cellsOf e = ls.length) (h0 : 0 < ls.length) (h : DataW.trod enc P w base spare held fuel t cs = some x) :
  ∃ (a : Option Addr) (len cap : Nat), cs = [.slice a len cap] /\ len <= cap /\ cap <= 9223372036854775807 /\ (a = none -> len = 0 /\ cap = 0) /\ (len = 0 \/ ∃ b off, a = some ⟨b, off, none⟩ /\ ∀ i, i < len -> ∃ vs : List Value, (∀ j v, vs[j]? = some v -> w.cell? ⟨b, off + i * ls.length + j, none⟩ = some v) /\ AllOk (js enc P w base spare held) ls vs) := by
 rcases DataW.trod_slice hs h with ⟨rfl, -⟩ | ⟨a, len, cap, el, re, m, -, rfl, -, -, hlc, hm, hel, hi, -⟩
 ·exact ⟨none, 0, 0, rfl, by omega, by omega, λ _ => ⟨rfl, rfl⟩, .inl rfl⟩
 ·refine ⟨some a, len, cap, rfl, hlc, by unfold maxLen at hm; omega, λ hn => (by cases hn), ?_⟩
  by_cases hz : len = 0
  ·exact .inl hz
  ·right
   have hall : ∀ i, i < len -> ∃ vs : List Value, (∀ j, j < ls.length -> w.cell? ((a.add (i * ls.length)).add j) = vs[j]?) /\ AllOk (js enc P w base spare held) ls vs := by
    intro i hil
    have h1 := hi i hil
    rw [List.getElem?_eq_getElem (by omega), hc] at h1
    obtain ⟨vs, hv1, hv2⟩ := Option.bind_eq_some_iff.1 h1
    obtain ⟨-, hvl, hvc⟩ := World.cells?_some hv1
    exact ⟨vs, λ j hj => hvc j hj, J3 n e ls m _ _ hl hv2⟩
   obtain ⟨vs0, h1, h2⟩ := hall 0 (by omega)
   have hl0 := h2.len
   have hc0 := h1 0 h0
   rw [List.getElem?_eq_getElem (by omega)] at hc0
   obtain ⟨b, off, spot⟩ := a
   have hspot : spot = none := by simpa [Addr.add] using World.cell?_spot hc0
   subst hspot
   refine ⟨b, off, rfl, λ i hil => ?_⟩
   obtain ⟨vs, hv1, hv2⟩ := hall i hil
   refine ⟨vs, λ j v hj => ?_, hv2⟩
   have hjl : j < vs.length := (List.getElem?_eq_some_iff.1 hj).1
   have hvl := hv2.len
   have := hv1 j (by omega)
   rw [hj] at this
   rw [<- this]
   congr 1
   by_cases hi0 : i * ls.length = 0
   ·by_cases hj0 : j = 0
    ·subst hj0; simp [Addr.add, hi0]
    ·simp [Addr.add, hi0, hj0]
   ·by_cases hj0 : j = 0
    ·subst hj0; simp [Addr.add, hi0]
    ·simp [Addr.add, hi0, hj0]
end
end
section
open Go.ChangeShapes Go.WideShapes Go.ChangeAt Go.RowKit Go.Deep
inductive Lk (M : Mem) (R : Leaf -> Value -> Prop) (Q : (k : Ck) -> CkT k -> Prop) : List Ck -> List Leaf -> Prop
 | nil : Lk M R Q [] []
 | cons {k : Ck} {ks : List Ck} {l : Leaf} {ls : List Leaf} (h : ∀ v, R l v -> ∃ a : CkT k, Q k a /\ Rd M JD jE v (zf8 k a) /\ v.oneCell' = true) (t : Lk M R Q ks ls) : Lk M R Q (k :: ks) (l :: ls)
def zsn (Q : (k : Ck) -> CkT k -> Prop) : (ks : List Ck) -> Tp ks -> Prop
 | [], _ => True
 | k :: ks, e => Q k e.1 /\ zsn Q ks e.2
theorem Lk.len {M : Mem} {R : Leaf -> Value -> Prop} {Q : (k : Ck) -> CkT k -> Prop} {ks : List Ck} {ls : List Leaf} (h : Lk M R Q ks ls) : ks.length = ls.length := by
 induction h with
 | nil => rfl
 | cons _ _ ih => simp [ih]
theorem zz8 {M : Mem} {R : Leaf -> Value -> Prop} {Q : (k : Ck) -> CkT k -> Prop} {ks : List Ck} {ls : List Leaf} (h : Lk M R Q ks ls) : ∀ {vs : List Value}, AllOk R ls vs -> ∃ e : Tp ks, zsn Q ks e /\ vs.length = ks.length /\ (Go.Proofs.YthdgnfcbehcplaaGreatDoor.enc ks e).length = ks.length /\ ∀ j (h : j < vs.length) (h' : j < (Go.Proofs.YthdgnfcbehcplaaGreatDoor.enc ks e).length), Rd M JD jE vs[j] (Go.Proofs.YthdgnfcbehcplaaGreatDoor.enc ks e)[j] /\ (vs[j]).oneCell' = true := by
 induction h with
 | nil =>
  intro vs ha
  obtain rfl := AllOk.nil ha
  exact ⟨(), trivial, rfl, rfl, λ j h => by cases h⟩
 | cons hk _ ih =>
  intro vs ha
  obtain ⟨v, r, rfl, h1, h2⟩ := AllOk.cons ha
  obtain ⟨a, q1, q2, q3⟩ := hk v h1
  obtain ⟨e, e1, e2, e3, e4⟩ := ih h2
  refine ⟨(a, e), ⟨q1, e1⟩, by simp [e2], by simp [Go.Proofs.YthdgnfcbehcplaaGreatDoor.enc, e3], λ j h h' => ?_⟩
  cases j with
  | zero => exact ⟨q2, q3⟩
  | succ j => exact e4 j (by simpa using h) (by simpa [Go.Proofs.YthdgnfcbehcplaaGreatDoor.enc] using h')
theorem zhz {α : Type} {p : Nat -> α -> Prop} : ∀ (n : Nat), (∀ i, i < n -> ∃ e, p i e) -> ∃ L : List α, L.length = n /\ ∀ i (h : i < L.length), p i L[i]
 | 0, _ => ⟨[], rfl, λ i h => by cases h⟩
 | n + 1, h => by
  obtain ⟨L, h1, h2⟩ := zhz n λ i hi => h i (by omega)
  obtain ⟨e, he⟩ := h n (by omega)
  refine ⟨L ++ [e], by simp [h1], λ i hi => ?_⟩
  rw [List.getElem_append]
  split
  ·exact h2 i _
  ·simp at hi
   have : i = n := by omega
   subst this
   simpa using he
section
variable {H : Type} {en : TypeId × Value -> H} {P : Program} {w : World} {base : Nat} {held : Bool}
theorem zvv {t e : TypeId} {fuel len cap : Nat} {ad : Addr} {y : DataW H × List MemPlace} (hs : P.underlying t = some (.slice e)) (hc : 0 < P.cellsOf e) (h : DataW.trod en P w base (λ _ => true) held fuel t [.slice (some ad) len cap] = some y) : cap = 0 \/ ad.spot = none := by
 rcases DataW.trod_slice hs h with ⟨hcs, -⟩ | ⟨a, l, c, el, re, m, -, hcs, -, -, hlc, hm, hel, hi, hsp, -⟩
 ·cases hcs
 ·injection hcs with hcs _
  injection hcs with h1 h2 h3
  injection h1 with h1
  subst h1 h2 h3
  by_cases h0 : cap = 0
  ·exact .inl h0
  ·refine .inr ?_
   have key : ∀ (q : Nat) (z : DataW H × List MemPlace), q = 0 -> (w.cells? base (ad.add (q * P.cellsOf e)) (P.cellsOf e)).bind (DataW.trod en P w base (λ _ => true) held m e) = some z -> ad.spot = none := λ q z hq hz => by
    subst hq
    obtain ⟨vs, hv1, -⟩ := Option.bind_eq_some_iff.1 hz
    obtain ⟨-, hvl, hvc⟩ := World.cells?_some hv1
    have h1 := hvc 0 hc
    rw [List.getElem?_eq_getElem (by omega)] at h1
    simpa [Addr.add] using World.cell?_spot h1
   by_cases h1 : len = 0
   ·obtain ⟨q1, q2⟩ := hsp rfl
    have h2 := q2 0 (by omega)
    rw [List.getElem?_eq_getElem (by omega)] at h2
    exact key _ _ (by omega) h2
   ·have h2 := hi 0 (by omega)
    rw [List.getElem?_eq_getElem (by omega)] at h2
    exact key _ _ rfl h2
theorem zff {Q : (k : Ck) -> CkT k -> Prop} {ks : List Ck} {ls : List Leaf} {t e : TypeId} {fuel n : Nat} {v : Value} {y : DataW H × List MemPlace} (hk : Lk (ZG w) (js en P w base (λ _ => true) held) Q ks ls) (h0 : 0 < ls.length) (hs : P.underlying t = some (.slice e)) (hl : zcT P n e = some ls) (hc : P.cellsOf e = ls.length) (h : DataW.trod en P w base (λ _ => true) held fuel t [v] = some y) :
  ∃ L : List (Tp ks), L.length <= 9223372036854775807 /\ (∀ e ∈ L, zsn Q ks e) /\ v.oneCell' = true /\ ∀ ρ σ, Rd (ZG w) ρ σ v (.list ks.length (L.map (Go.Proofs.YthdgnfcbehcplaaGreatDoor.enc ks)) none) := by
 obtain ⟨a, len, cap, hcs, hlc, hm, hn, hz⟩ := zqk hs hl hc h0 h
 injection hcs with hcs _
 subst hcs
 have hkl := hk.len
 rcases hz with hz | ⟨b, off, rfl, hi⟩
 ·subst hz
  refine ⟨[], by simp, λ e he => (by cases he), rfl, λ ρ σ => ?_⟩
  cases a with
  | none => obtain ⟨-, rfl⟩ := hn rfl; exact .nil
  | some ad =>
   rcases zvv hs (by omega) h with rfl | hsp
   ·exact .nil (.inr rfl)
   ·obtain ⟨b, o, sp⟩ := ad
    dsimp only at hsp
    subst hsp
    exact .list (λ _ _ => .bool true) rfl hlc (λ i h => by cases h) (λ i j h => by cases h) (λ i j => rfl) (λ i j h => by cases h) .none
 ·have each : ∀ i, i < len -> ∃ e : Tp ks, zsn Q ks e /\ ∀ j (h' : j < (Go.Proofs.YthdgnfcbehcplaaGreatDoor.enc ks e).length), ∃ c, ZG w b (off + i * ks.length + j) = some c /\ c.oneCell' = true /\ Rd (ZG w) JD jE c (Go.Proofs.YthdgnfcbehcplaaGreatDoor.enc ks e)[j] := λ i hil => by
   obtain ⟨vs, h1, h2⟩ := hi i hil
   obtain ⟨e, e1, e2, e3, e4⟩ := zz8 hk h2
   refine ⟨e, e1, λ j h' => ?_⟩
   have hj : j < vs.length := by omega
   refine ⟨vs[j], ?_, (e4 j hj h').2, (e4 j hj h').1⟩
   have := h1 j vs[j] (List.getElem?_eq_getElem hj)
   rw [hkl]
   exact this
  obtain ⟨L, hL, hLp⟩ := zhz len each
  have hel : ∀ e : Tp ks, (Go.Proofs.YthdgnfcbehcplaaGreatDoor.enc ks e).length = ks.length := λ e => by
   have : ∀ (ks : List Ck) (e : Tp ks), (Go.Proofs.YthdgnfcbehcplaaGreatDoor.enc ks e).length = ks.length := λ ks => by
    induction ks with
    | nil => intro e; rfl
    | cons k ks ih => intro e; simp [Go.Proofs.YthdgnfcbehcplaaGreatDoor.enc, ih]
   exact this ks e
  have cl : ∀ i j, i < len -> j < ks.length -> ∃ c, ZG w b (off + i * ks.length + j) = some c /\ c.oneCell' = true /\ ∀ (h : i < L.length) (h' : j < (Go.Proofs.YthdgnfcbehcplaaGreatDoor.enc ks L[i]).length), Rd (ZG w) JD jE c (Go.Proofs.YthdgnfcbehcplaaGreatDoor.enc ks L[i])[j] := λ i j hi hj => by
   obtain ⟨c, c1, c2, c3⟩ := (hLp i (by omega)).2 j (by rw [hel]; exact hj)
   exact ⟨c, c1, c2, λ _ _ => c3⟩
  refine ⟨L, by omega, λ e he => ?_, rfl, λ ρ σ => ?_⟩
  ·obtain ⟨i, hi', rfl⟩ := List.getElem_of_mem he
   exact (hLp i hi').1
  ·refine .list (λ i j => if i < len /\ j < ks.length then (ZG w b (off + i * ks.length + j)).getD (.bool true) else .bool true) (by simp [hL]) hlc (λ i h => by simp [hel]) (λ i j hi' hj => ?_) (λ i j => ?_) (λ i j h1 h2 => ?_) .none
   ·have hil : i < len := by simpa [hL] using hi'
    obtain ⟨c, c1, -⟩ := cl i j hil hj
    rw [if_pos ⟨hil, hj⟩, c1]; rfl
   ·by_cases hc : i < len /\ j < ks.length
    ·rw [if_pos hc]
     obtain ⟨c, c1, c2, -⟩ := cl i j hc.1 hc.2
     rw [c1]; exact c2
    ·rw [if_neg hc]; rfl
   ·have hil : i < len := by simpa [hL] using h1
    have hjl : j < ks.length := by simpa [hel] using h2
    obtain ⟨c, c1, -, c3⟩ := cl i j hil hjl
    rw [if_pos ⟨hil, hjl⟩, c1]
    have := c3 (by omega) (by rw [hel]; exact hjl)
    simpa using this
theorem znK {M : Mem} {Q : (k : Ck) -> CkT k -> Prop} {k : IntKind} (hQ : ∀ n, Q (.int k) n) : ∀ v, js en P w base (λ _ => true) held (.int k) v -> ∃ a : CkT (.int k), Q (.int k) a /\ Rd M JD jE v (zf8 (.int k) a) /\ v.oneCell' = true := λ v h => by
 obtain ⟨n, rfl, -⟩ := h
 exact ⟨n, hQ n, .v, rfl⟩
theorem zot {M : Mem} {Q : (k : Ck) -> CkT k -> Prop} (hQ : ∀ s : ByteArray, s.size <= 9223372036854775807 -> Q .str s) : ∀ v, js en P w base (λ _ => true) held .str v -> ∃ a : CkT .str, Q .str a /\ Rd M JD jE v (zf8 .str a) /\ v.oneCell' = true := λ v h => by
 obtain ⟨n, rfl, hn⟩ := h
 exact ⟨n, hQ n (by unfold maxLen at hn; omega), .v, rfl⟩
end
end
section
open Go.ChangeShapes Go.WideShapes Go.ChangeAt Go.RowKit Go.Deep
def Qv : (k : Ck) -> CkT k -> Prop
 | .str, s => s.size <= 9223372036854775807
 | .sl _, xs => ∃ P : List RT1, xs = P.map zh
 | _, _ => True
def Qe : (k : Ck) -> CkT k -> Prop
 | .sl _, xs => ∃ x : List RT7, xs = x.map zo /\ x.length <= 9223372036854775807 /\ ∀ v ∈ x, zsn Qv RK7 v
 | _, _ => True
section
variable {H : Type} {enc : TypeId × Value -> H} {w : World}
theorem zvd : Lk (ZG w) (js enc Tryz.prog w 0 (λ _ => true) true) Qv RK1 [.str, .str, .str, .str, .int .i64, .int .i64, .int .i64, .int .i64, .int .i64] := by
 have hi := znK (en := enc) (P := Tryz.prog) (w := w) (base := 0) (held := true) (M := ZG w) (Q := Qv) (k := .i64) λ _ => trivial
 have hs := zot (en := enc) (P := Tryz.prog) (w := w) (base := 0) (held := true) (M := ZG w) (Q := Qv) λ _ h => h
 repeat (first | exact .nil | refine .cons hi ?_ | refine .cons hs ?_)
theorem zjb (v : Value) (h : js enc Tryz.prog w 0 (λ _ => true) true (.sl 29) v) : ∃ a : CkT (.sl 9), Qv (.sl 9) a /\ Rd (ZG w) JD jE v (zf8 (.sl 9) a) /\ v.oneCell' = true := by
 obtain ⟨n, y, hy⟩ := h
 obtain ⟨L, -, -, h3, h4⟩ := zff (n := 8) zvd (by decide) Tryz.underlying29 (by kernel_rfl) (by kernel_rfl) hy
 exact ⟨L.map zh, ⟨L, rfl⟩, h4 _ _, h3⟩
def verL : List Leaf := [.int .i64, .int .i64, .str, .int .i64, .str, .str, .str, .str, .int .i64, .int .i64, .int .i64, .int .i64, .int .i64, .sl 29, .int .i64, .int .i64, .int .i64, .int .i64, .int .i64, .int .i64, .int .i64, .int .i64, .int .i64, .int .i64, .int .i64, .int .i64, .int .i64, .int .i64, .int .i64]
set_option maxRecDepth 100000 in
theorem zAn : Lk (ZG w) (js enc Tryz.prog w 0 (λ _ => true) true) Qv RK7 verL := by
 have hi := znK (en := enc) (P := Tryz.prog) (w := w) (base := 0) (held := true) (M := ZG w) (Q := Qv) (k := .i64) λ _ => trivial
 have hs := zot (en := enc) (P := Tryz.prog) (w := w) (base := 0) (held := true) (M := ZG w) (Q := Qv) λ _ h => h
 exact .cons hi (.cons hi (.cons hs (.cons hi (.cons hs (.cons hs (.cons hs (.cons hs (.cons hi (.cons hi (.cons hi (.cons hi (.cons hi (.cons zjb (.cons hi (.cons hi (.cons hi (.cons hi (.cons hi (.cons hi (.cons hi (.cons hi (.cons hi (.cons hi (.cons hi (.cons hi (.cons hi (.cons hi (.cons hi .nil))))))))))))))))))))))))))))
theorem zvE (v : Value) (h : js enc Tryz.prog w 0 (λ _ => true) true (.sl 69) v) : ∃ a : CkT (.sl 29), Qe (.sl 29) a /\ Rd (ZG w) JD jE v (zf8 (.sl 29) a) /\ v.oneCell' = true := by
 obtain ⟨n, y, hy⟩ := h
 obtain ⟨L, h1, h2, h3, h4⟩ := zff (n := 8) zAn (by decide) Tryz.underlying69 (by kernel_rfl) (by kernel_rfl) hy
 exact ⟨L.map zo, ⟨L, rfl, h1, h2⟩, h4 _ _, h3⟩
def zv4 (W : World) (v : Value) : Prop := ∃ C : qC, Sz C /\ (∀ x ∈ C, ∀ v ∈ x, Raw (evV v) /\ (byV v).size <= 9223372036854775807) /\ ∀ ρ σ, Rd (ZG W) ρ σ v (.agg [.list 1 (zj C) none])
theorem zDa {v : RT7} (h : zsn Qv RK7 v) : Raw (evV v) /\ (byV v).size <= 9223372036854775807 :=
 ⟨h.2.2.2.2.2.2.2.2.2.2.2.2.2.1, h.2.2.1⟩
set_option maxRecDepth 100000 in
theorem zy0 {b0 : Nat} {v : Value} {d : DataW H} {p : List MemPlace} (hv : Value.okWide Tryz.prog w .any b0 24 v) (h : DataW.Trod enc Tryz.prog w 0 (λ _ => true) true 24 v d p) :
  ∃ cs : Array Value, v = .agg cs /\ zv4 w (.agg cs) := by
 obtain ⟨cs, rfl, h0⟩ := zyR (n := 8) (ls := [.sl 22]) Tryz.underlying24 (by kernel_rfl) hv h
 obtain ⟨v0, s0, rfl, k0, h1⟩ := AllOk.cons h0
 obtain rfl := AllOk.nil h1
 obtain ⟨n, y, hy⟩ := k0
 obtain ⟨L, q1, q2, q3, q4⟩ := zff (n := 8) (ks := RK6) (Q := Qe) (.cons zvE .nil) (by decide) Tryz.underlying22 (by kernel_rfl) (by kernel_rfl) hy
 obtain ⟨C, hC, hCp⟩ := zhz (p := λ i (x : List RT7) => ∀ h : i < L.length, (L[i]).1 = x.map zo /\ x.length <= 9223372036854775807 /\ ∀ v ∈ x, zsn Qv RK7 v) L.length λ i hi => by
  obtain ⟨x, x1, x2, x3⟩ := (q2 _ (List.getElem_mem hi)).1
  exact ⟨x, λ _ => ⟨x1, x2, x3⟩⟩
 have hrow : L.map (Go.Proofs.YthdgnfcbehcplaaGreatDoor.enc RK6) = zj C := by
  refine List.ext_getElem (by simp [zj, hC]) λ i h1 h2 => ?_
  have hi : i < L.length := by simpa using h1
  have := (hCp i (by omega) hi).1
  simp only [List.getElem_map, zj]
  show [AV.list 29 (L[i]).1 none] = _
  rw [this]; rfl
 refine ⟨_, rfl, C, ⟨by omega, λ x hx => ?_⟩, λ x hx v hv => ?_, λ ρ σ => ?_⟩
 ·obtain ⟨i, hi, rfl⟩ := List.getElem_of_mem hx
  exact (hCp i hi (by omega)).2.1
 ·obtain ⟨i, hi, rfl⟩ := List.getElem_of_mem hx
  exact zDa ((hCp i hi (by omega)).2.2 v hv)
 ·refine .agg rfl (λ i h => ?_) λ i h h' => ?_
  ·obtain rfl : i = 0 := by have : i < 1 := h; omega
   exact q3
  ·obtain rfl : i = 0 := by have : i < 1 := h; omega
   have := q4 ρ σ
   rw [hrow] at this
   exact this
set_option maxRecDepth 100000 in
theorem zCJ : Lk (ZG w) (js enc Tryz.prog w 0 (λ _ => true) true) Qv RK0 (verL.drop 4) := by
 have hi := znK (en := enc) (P := Tryz.prog) (w := w) (base := 0) (held := true) (M := ZG w) (Q := Qv) (k := .i64) λ _ => trivial
 have hs := zot (en := enc) (P := Tryz.prog) (w := w) (base := 0) (held := true) (M := ZG w) (Q := Qv) λ _ h => h
 exact .cons hs (.cons hs (.cons hs (.cons hs (.cons hi (.cons hi (.cons hi (.cons hi (.cons hi (.cons zjb (.cons hi (.cons hi (.cons hi (.cons hi (.cons hi (.cons hi (.cons hi (.cons hi (.cons hi (.cons hi (.cons hi (.cons hi (.cons hi (.cons hi (.cons hi .nil))))))))))))))))))))))))
def zsu (W : World) (v : Value) : Prop := ∃ A : List RT0, A.length <= 9223372036854775807 /\ (∀ e ∈ A, Raw e) /\ ∀ ρ σ, Rd (ZG W) ρ σ v (.list 25 (A.map zl) none)
set_option maxRecDepth 100000 in
theorem zzd {b0 : Nat} {a : Option Addr} {len cap : Nat} {d : DataW H} {p : List MemPlace} (hv : Value.okWide Tryz.prog w .any b0 67 (.slice a len cap)) (h : DataW.Trod enc Tryz.prog w 0 (λ _ => true) true 67 (.slice a len cap) d p) : zsu w (.slice a len cap) := by
 obtain ⟨n, hn⟩ := h
 obtain ⟨L, h1, h2, h3, h4⟩ := zff (n := 8) zCJ (by decide) Tryz.underlying67 (by kernel_rfl) (by kernel_rfl) hn
 exact ⟨L, h1, λ e he => (h2 e he).2.2.2.2.2.2.2.2.2.1, h4⟩
end
theorem Z6 (a0 : Array Value) (a1 : Option Addr) (zfe cap1 : Nat) (a2 : Int) (a3 : Option Addr) (len3 cap3 : Nat) (W : World) (c0 : zv4 W (.agg a0)) (w1 : zsu W (.slice a1 zfe cap1)) (z2 : -9223372036854775808 <= a2 /\ a2 <= 9223372036854775807) (w3 : zis W (.slice a3 len3 cap3)) (hgl : zpd (ZG W) W [] (InT jE [])) :
  Calls Tryz.prog 5 #[.agg a0, .slice a1 zfe cap1, .int .i64 a2, .slice a3 len3 cap3] W λ e w' => e = .returned (.bool true) /\ Below W.heap.size W w' := by
 obtain ⟨C, hS, hC, hr0⟩ := c0
 obtain ⟨A, hl1, hA, hr1⟩ := w1
 obtain ⟨xs, hb, hl, hr⟩ := w3
 refine CallOk.calls ((F5_e 600).ok (zj C, A.map zl, a2, zg xs) true (zgx hS hC hl1 hA a2 xs)) W _ rfl (λ i h h' => ?_) hgl
 have hi : i = 0 \/ i = 1 \/ i = 2 \/ i = 3 := by have : i < 4 := h; omega
 rcases hi with rfl | rfl | rfl | rfl
 ·exact hr0 _ _
 ·exact hr1 _ _
 ·exact .v
 ·exact hr _ _
end
section
open Go.RowKit
def bD (bs : List Bool) : DataW Unit := .agg (bs.map λ b => .lit (.bool b))
theorem ZH {enc : TypeId × Value -> Unit} {P : Program} {w : World} {base : Nat} {sp : Nat -> Bool} {held : Bool} {fuel : Nat} {t e : TypeId} {n : Nat} {cs : List Value} {bs : List Bool} {p : List MemPlace}
  (ht : P.underlying t = some (.array n e)) (he : P.underlying e = some .bool) (hce : P.cellsOf e = 1) (hct : P.cellsOf t = n)
  (h : DataW.trod enc P w base sp held fuel t cs = some (bD bs, p)) : cs = bs.map Value.bool := by
 obtain ⟨xs, m, _, hx, hl, hn, hf⟩ := DataW.trod_array ht h
 have hxs : xs.map (·.1) = bs.map λ b => (DataW.lit (.bool b) : DataW Unit) := by
  have := congrArg Prod.fst hx
  unfold bD at this
  exact (DataW.agg.inj this).symm
 have hbl : bs.length = n := by
  have := congrArg List.length hxs
  simp at this
  omega
 rw [hce] at hf
 apply List.ext_getElem?
 intro i
 by_cases hi : i < n
 ·have hxi : xs[i]? = some xs[i] := List.getElem?_eq_getElem (by omega)
  have hfi := hf i hi
  rw [hxi] at hfi
  obtain ⟨b, hc, hb⟩ := DataW.trod_bool he hfi
  have h1 : cs[i]? = some (.bool b) := by
   have := congrArg (·[0]?) hc
   simpa [List.getElem?_take, List.getElem?_drop] using this
  have h2 : (xs.map (·.1))[i]? = some (DataW.lit (.bool b) : DataW Unit) := by simp [hxi, hb]
  rw [hxs] at h2
  simp only [List.getElem?_map, Option.map_eq_some_iff, DataW.lit.injEq, Lit.bool.injEq] at h2
  obtain ⟨z', hz', rfl⟩ := h2
  simp [h1, hz']
 ·rw [List.getElem?_eq_none (by omega), List.getElem?_eq_none (by simp; omega)]
theorem zcz {enc : TypeId × Value -> Unit} {P : Program} {w : World} {base : Nat} {sp : Nat -> Bool} {held : Bool} {fuel : Nat} {t r e : TypeId} {cs : List Value} {a0 a1 a2 a3 a4 a5 a6 : List Bool} {p : List MemPlace}
  (ht : P.underlying t = some (.array 7 r)) (hr : P.underlying r = some (.array 7 e)) (he : P.underlying e = some .bool) (hce : P.cellsOf e = 1) (hcr : P.cellsOf r = 7) (hct : P.cellsOf t = 49)
  (h : DataW.trod enc P w base sp held fuel t cs = some (.agg [bD a0, bD a1, bD a2, bD a3, bD a4, bD a5, bD a6], p)) : cs = (a0 ++ a1 ++ a2 ++ a3 ++ a4 ++ a5 ++ a6).map Value.bool := by
 obtain ⟨xs, m, _, hx, hl, hn, hf⟩ := DataW.trod_array ht h
 have hxs : [bD a0, bD a1, bD a2, bD a3, bD a4, bD a5, bD a6] = xs.map (·.1) := by
  have := congrArg Prod.fst hx
  exact DataW.agg.inj this
 rw [hcr] at hf
 rw [hct] at hl
 match xs, hn, hxs, hf with
 | [x0, x1, x2, x3, x4, x5, x6], _, hxs, hf =>
  simp only [List.map_cons, List.map_nil, List.cons.injEq, and_true] at hxs
  obtain ⟨e0, e1, e2, e3, e4, e5, e6⟩ := hxs
  have g : ∀ (i : Nat) (x : DataW Unit × List MemPlace) (b : List Bool), i < 7 -> [x0, x1, x2, x3, x4, x5, x6][i]? = some x -> bD b = x.1 -> (cs.drop (i * 7)).take 7 = b.map Value.bool := λ i x b hi hx hb => by
   have h2 := hf i hi
   rw [hx] at h2
   obtain ⟨x1, x2⟩ := x
   dsimp only at hb
   subst hb
   exact ZH hr he hce hcr h2
  have k0 := g 0 x0 a0 (by omega) rfl e0
  have k1 := g 1 x1 a1 (by omega) rfl e1
  have k2 := g 2 x2 a2 (by omega) rfl e2
  have k3 := g 3 x3 a3 (by omega) rfl e3
  have k4 := g 4 x4 a4 (by omega) rfl e4
  have k5 := g 5 x5 a5 (by omega) rfl e5
  have k6 := g 6 x6 a6 (by omega) rfl e6
  have s : ∀ j, cs.drop (j * 7) = (cs.drop (j * 7)).take 7 ++ cs.drop ((j + 1) * 7) := λ j => by
   rw [Nat.add_mul, Nat.one_mul, <- List.drop_drop, List.take_append_drop]
  have z : cs.drop (7 * 7) = [] := List.drop_eq_nil_of_le (by omega)
  have : cs = cs.drop (0 * 7) := rfl
  rw [this, s 0, s 1, s 2, s 3, s 4, s 5, s 6, z, k0, k1, k2, k3, k4, k5, k6]
  simp only [List.map_append, List.append_nil, List.append_assoc]
theorem zao {W : World} {n : String} {g : Nat} (P : Program) (hn : P.globalNamed n = some g) {cs : Array Value} (h : W.var? P n = some cs) : ∃ t z, W.heap[g]? = some (.cells cs t z) := by
 unfold World.var? at h
 rw [hn] at h
 have h' : (match W.heap[g]? with | some (Obj.cells cs _ _) => some cs | _ => none) = some cs := h
 split at h'
 ·rename_i c t z hc
  cases h'
  exact ⟨t, z, hc⟩
 ·cases h'
def zzq : List (String × DataW Unit) := Rows.catalogueKeptRow.laid
theorem zvD {W : World} (h : laidMetH Tryz.prog zzq W) : (∃ t z, W.heap[0]? = some (.cells gtab0.toArray t z)) /\ (∃ t z, W.heap[1]? = some (.cells gtab1.toArray t z)) /\ (∃ t z, W.heap[2]? = some (.cells gtab2.toArray t z)) /\ (∃ t z, W.heap[3]? = some (.cells gtab3.toArray t z)) := by
 rw [MakeChecks.laidMetH_plain _ _ _ (by kernel_rfl)] at h
 obtain ⟨ps, ⟨g1, t1, c1, f1, p1, q1, n1, y1, v1, d1, ⟨g3, t3, c3, f3, p3, q3, n3, y3, v3, d3, ⟨g0, t0, c0, f0, p0, q0, n0, y0, v0, d0, ⟨g2, t2, c2, f2, p2, q2, n2, y2, v2, d2, _, _⟩, _⟩, _⟩, _⟩, _⟩ := h
 have m1 : Tryz.prog.globalNamed "seismonet/catalogue.follows" = some 1 := by kernel_rfl
 have m3 : Tryz.prog.globalNamed "seismonet/catalogue.computed" = some 3 := by kernel_rfl
 have m0 : Tryz.prog.globalNamed "seismonet/catalogue.shown" = some 0 := by kernel_rfl
 have m2 : Tryz.prog.globalNamed "seismonet/catalogue.kept" = some 2 := by kernel_rfl
 obtain rfl := Option.some.inj (m1.symm.trans n1)
 obtain rfl := Option.some.inj (m3.symm.trans n3)
 obtain rfl := Option.some.inj (m0.symm.trans n0)
 obtain rfl := Option.some.inj (m2.symm.trans n2)
 have u1 : (Tryz.prog.globals[1]?).map (·.type) = some 102 := by kernel_rfl
 have u3 : (Tryz.prog.globals[3]?).map (·.type) = some 98 := by kernel_rfl
 have u0 : (Tryz.prog.globals[0]?).map (·.type) = some 98 := by kernel_rfl
 have u2 : (Tryz.prog.globals[2]?).map (·.type) = some 98 := by kernel_rfl
 obtain rfl := Option.some.inj (u1.symm.trans y1)
 obtain rfl := Option.some.inj (u3.symm.trans y3)
 obtain rfl := Option.some.inj (u0.symm.trans y0)
 obtain rfl := Option.some.inj (u2.symm.trans y2)
 have e4 : Tryz.prog.cellsOf 4 = 1 := by kernel_rfl
 have e86 : Tryz.prog.cellsOf 98 = 7 := by kernel_rfl
 have e94 : Tryz.prog.cellsOf 102 = 49 := by kernel_rfl
 have z0 : c0.toList = gtab0 := ZH (bs := [false, true, false, true, false, false, true]) Tryz.underlying98 Tryz.underlying4 e4 e86 d0
 have z2 : c2.toList = gtab2 := ZH (bs := [false, false, true, false, true, true, true]) Tryz.underlying98 Tryz.underlying4 e4 e86 d2
 have z3 : c3.toList = gtab3 := ZH (bs := [false, true, true, false, false, false, false]) Tryz.underlying98 Tryz.underlying4 e4 e86 d3
 have z1 : c1.toList = gtab1 := zcz (a0 := [false, false, false, false, false, false, false]) (a1 := [false, true, true, false, false, false, true]) (a2 := [false, true, false, false, false, false, true]) (a3 := [false, true, true, true, true, true, true]) (a4 := [false, true, true, true, true, true, true]) (a5 := [false, true, true, true, true, true, true]) (a6 := [false, false, false, true, true, true, false]) Tryz.underlying102 Tryz.underlying98 Tryz.underlying4 e4 e86 e94 d1
 have w0 := zao _ m0 v0
 have w1 := zao _ m1 v1
 have w2 := zao _ m2 v2
 have w3 := zao _ m3 v3
 rw [<- z0, <- z1, <- z2, <- z3]
 exact ⟨w0, w1, w2, w3⟩
theorem ziW {W : World} {g : Nat} {cs : List Value} (h1 : ∀ x ∈ cs, ∃ b, x = Value.bool b) (hw : ∃ t z, W.heap[g]? = some (.cells cs.toArray t z)) : (∀ j, (cs.getD j (.bool true)).oneCell' = true /\ (j < cs.length -> ZG W g j = some (cs.getD j (.bool true)))) /\ (∃ (t : TypeId) (z : Nat × Nat), W.heap[g]? = some (.cells cs.toArray t z)) /\ some g ∉ ([] : List (Option Nat)) /\ ¬ InT jE [] g := by
 refine ⟨λ j => ⟨?_, λ hj => ?_⟩, hw, λ h => (by cases h), λ ⟨t, h, _⟩ => (by cases h)⟩
 ·by_cases hj : j < cs.length
  ·rw [List.getD_eq_getElem?_getD, List.getElem?_eq_getElem hj]
   obtain ⟨b, hb⟩ := h1 _ (List.getElem_mem hj)
   rw [Option.getD_some, hb]; rfl
  ·rw [List.getD_eq_getElem?_getD, List.getElem?_eq_none (by simpa using hj)]
   rfl
 ·obtain ⟨t, z, hw⟩ := hw
  show W.cell? ⟨g, j, none⟩ = _
  rw [List.getD_eq_getElem?_getD, List.getElem?_eq_getElem hj, Option.getD_some]
  simp [World.cell?, hw, hj]
theorem zCS {W : World} (h : laidMetH Tryz.prog zzq W) : zpd (ZG W) W [] (InT jE []) := by
 obtain ⟨w0, w1, w2, w3⟩ := zvD h
 have hb : ∀ (l : List Bool), ∀ x ∈ l.map Value.bool, ∃ b, x = Value.bool b := λ l x hx => by
  obtain ⟨b, _, e⟩ := List.mem_map.1 hx
  exact ⟨b, e.symm⟩
 intro g cs hg
 unfold glb at hg
 split at hg
 ·cases hg; exact ziW (hb _) w0
 ·cases hg; exact ziW (hb _) w1
 ·cases hg; exact ziW (hb _) w2
 ·cases hg; exact ziW (hb _) w3
 ·cases hg
end
end Go.Proofs.YthdgnfcbehcplaaGreatDoor
