/- Several texts as one (written by merge.py): UtX UtV. -/
import Derived.WalkKit
import Derived.RegionTactic
import Derived.ChangeAlike
import Derived.Maps.OwnOps
import Derived.Maps.Views
import Derived.Shelf.Abstract
import Derived.Test.YtaanjciokdpkmaaDoorLib
import Derived.Test.YtaanjciokdpkmaaDoorUyA
/- Utc: Parse, which keeps a map, walked. -/
namespace Go.Proofs.YtaanjciokdpkmaaDoor
open Go.RowKit Go.Maps
attribute [local go_sem] Oper.semAt_some
set_option linter.unusedVariables false
set_option linter.unusedSimpArgs false
set_option linter.unnecessarySimpa false
/-- A slice of ints in memory. -/
def ILRow (w : World) (p : Option Addr) (n : Nat) (L : List Int) : Prop :=
  n = L.length ∧ (n = 0 ∨ ∃ b off : Nat, p = some ⟨b, off, none⟩ ∧ ∀ i (h : i < L.length), w.cell? ⟨b, off + i, none⟩ = some (.int .i64 L[i]))
theorem ILRow.heap {w w' : World} {p : Option Addr} {n : Nat} {L : List Int} (h : ILRow w p n L) (hg : ∀ b off, p = some ⟨b, off, none⟩ → b < w.heap.size → n = 0 ∨ w'.heap[b]? = w.heap[b]?) : ILRow w' p n L := by
  obtain ⟨rfl, h | ⟨b, off, rfl, h⟩⟩ := h
  · exact ⟨rfl, .inl h⟩
  · by_cases h0 : L.length = 0
    · exact ⟨rfl, .inl h0⟩
    · rcases hg b off rfl (cell_lt (h 0 (by omega))) with h1 | h1
      · omega
      · exact ⟨rfl, .inr ⟨b, off, rfl, fun i hi => by rw [cell_of_heap h1]; exact h i hi⟩⟩
theorem ILRow.keep {w w' : World} {p : Option Addr} {n : Nat} {L : List Int} (h : ILRow w p n L) (hb : Below w.heap.size w w') : ILRow w' p n L := h.heap fun b off hp hl => .inr (hb.block b hl)
/-- A slice's shape. -/
def Shp (p : Option Addr) (n c : Nat) : Prop := (p = none ∧ n = 0 ∧ c = 0) ∨ ∃ g off, p = some ⟨g, off, none⟩ ∧ n ≤ c
theorem ILRow.rd {w : World} {p : Option Addr} {n c : Nat} {L : List Int} (h : ILRow w p n L) (hs : Shp p n c) (ρ : Rho) (σ : Sig) : Rd (memOf w) ρ σ (.slice p n c) (.list 1 (rowsI L) none) := by
  obtain ⟨rfl, h⟩ := h
  rcases hs with ⟨rfl, h0, rfl⟩ | ⟨g, off, rfl, hc⟩
  · have : L = [] := List.length_eq_zero_iff.1 h0
    subst this
    exact .nil
  · refine .list (fun i j => .int .i64 (L.getD i 0)) (rowsI_len L) hc (fun i h => by simp [rowsI]) (fun i j hi hj => ?_) (fun i j => rfl) (fun i j hi hj => ?_) .none
    · have hj0 : j = 0 := by omega
      subst hj0
      have hi' : i < L.length := by rw [rowsI_len] at hi; exact hi
      rcases h with h | ⟨b, o, he, h⟩
      · omega
      · cases he
        have := h i hi'
        show w.cell? ⟨g, off + i * 1 + 0, none⟩ = _
        rw [Nat.mul_one, Nat.add_zero, this]
        simp [List.getD_eq_getElem?_getD, hi']
    · have hj0 : j = 0 := by simp [rowsI] at hj; exact hj
      subst hj0
      have hi' : i < L.length := by rw [rowsI_len] at hi; exact hi
      simp [rowsI, List.getD_eq_getElem?_getD, hi']
      exact .v
theorem rd_row {w : World} {M : Mem} {ρ : Rho} {σ : Sig} {v : Value} {L : List Int} {t : Option Nat} (hM : ∀ g o x, M g o = some x → w.cell? ⟨g, o, none⟩ = some x) (h : Rd M ρ σ v (.list 1 (rowsI L) t)) : ∃ p n c, v = .slice p n c ∧ ILRow w p n L ∧ Shp p n c := by
  generalize hr : rowsI L = R at h
  cases h with
  | nil =>
    have : L = [] := by cases L with | nil => rfl | cons x r => cases hr
    subst this
    exact ⟨none, 0, 0, rfl, ⟨rfl, .inl rfl⟩, .inl ⟨rfl, rfl, rfl⟩⟩
  | @list _ _ g off len cap _ _ _ cf q1 q2 q3 q4 q5 q6 q7 =>
    subst hr
    have hl : len = L.length := by rw [← q1, rowsI_len]
    refine ⟨some ⟨g, off, none⟩, len, cap, rfl, ⟨hl, .inr ⟨g, off, rfl, fun i hi => ?_⟩⟩, .inr ⟨g, off, rfl, q2⟩⟩
    have hi' : i < (rowsI L).length := by rw [rowsI_len]; exact hi
    have m1 := hM _ _ _ (q4 i 0 hi' (by omega))
    have m2 := q6 i 0 hi' (by simp [rowsI])
    have m3 : Rd M rho0 sig0 (cf i 0) (AV.v (.int .i64 L[i])) := by
      have e2 : ((rowsI L)[i])[0]'(by simp [rowsI]) = AV.v (.int .i64 L[i]) := by simp [rowsI]
      rw [e2] at m2
      exact m2
    rw [m3.v_inv] at m1
    rw [Nat.mul_one, Nat.add_zero] at m1
    exact m1
theorem GlOk.later {w V : World} (h : GlOk (memOf w) w [] (InT sig0 [])) (hb : Below w.heap.size w V) : GlOk (memOf V) V [] (InT sig0 []) := by
  intro g cs hg
  obtain ⟨h1, ⟨t, z, h2⟩, h3, h4⟩ := h g cs hg
  have hlt := heap_lt h2
  have e := hb.block g hlt
  refine ⟨fun j => ⟨(h1 j).1, fun hj => ?_⟩, ⟨t, z, by rw [e]; exact h2⟩, h3, h4⟩
  have := (h1 j).2 hj
  show V.cell? ⟨g, j, none⟩ = _
  rw [cell_of_heap e]
  exact this
/-- The same, of what is known of the memory. -/
theorem GlOk.all {M : Mem} {w : World} {σ : Sig} (h : GlOk M w [] (InT σ [])) (hM : ∀ g o x, M g o = some x → w.cell? ⟨g, o, none⟩ = some x) : GlOk (memOf w) w [] (InT sig0 []) := by
  intro g cs hg
  obtain ⟨h1, h2, h3, h4⟩ := h g cs hg
  exact ⟨fun j => ⟨(h1 j).1, fun hj => hM _ _ _ ((h1 j).2 hj)⟩, h2, h3, fun ⟨t, ht, _⟩ => by cases ht⟩
def formP : List Int := [89, 89, 89, 89, 45, 77, 77, 45, 68, 68, 84, 104, 104, 58, 109, 109, 58, 115, 115, 46, 117, 117, 117, 117, 117, 117, 90]
theorem lawK : Keyed Tryd.prog 5 := int_keyed Tryd.underlying5
theorem zeroK (w : World) : (zeroValue 3).run Tryd.prog w = .ok (.int .i64 0) w := by kernel_rfl
def isSep (f : Int) : Bool := f == 45 || f == 84 || f == 58 || f == 46 || f == 90
def okAt (f x : Int) : Bool := if isSep f then x == f else decide (48 ≤ x) && decide (x ≤ 57)
def stepF (F : Int → Int) (f x : Int) : Int → Int := fun y => if isSep f then F y else if y = f then wrap64 (wrap64 (10 * F f) + (x - 48)) else F y
def fmAt (k : Nat) : Int := formP.getD k 0
def byAt (s : ByteArray) (k : Nat) : Int := ((s.data.getD k 0).toNat : Int)
def fldP (s : ByteArray) : Nat → Int → Int
  | 0 => fun _ => 0
  | k + 1 => stepF (fldP s k) (fmAt k) (byAt s k)
/-- What the map is behind k rounds. -/
structure St (s : ByteArray) (B k : Nat) (wr : World) (D : DataW Unit) : Prop where
  own : wr.ownsMap Tryd.prog 5 (plainElem Tryd.prog 3) B k D
  map : IsMap D
  at_ : ∀ y : Int, 0 ≤ y → y < 256 → D.atKey (.int .u8 y) (.lit (.int .i64 0)) = .lit (.int .i64 (fldP s k y))
  ok : ∀ j, j < k → okAt (fmAt j) (byAt s j) = true
theorem St.get {s : ByteArray} {B k : Nat} {wr : World} {D : DataW Unit} (h : St s B k wr D) {y c : Int} (h0 : 0 ≤ y) (h1 : y < 256) (hat : D.atKey (.int .u8 y) (.lit (.int .i64 0)) = .lit (.int .i64 c)) : c = fldP s k y := by
  have e := (h.at_ y h0 h1).symm.trans hat
  injection e with e
  injection e with _ e
  exact e.symm
theorem St.sep {s : ByteArray} {B k : Nat} {wr : World} {D : DataW Unit} (h : St s B k wr D) (hs : isSep (fmAt k) = true) (hx : byAt s k = fmAt k) : St s B (k + 1) wr D := by
  refine ⟨h.own.mono (by omega), h.map, fun y h0 h1 => ?_, fun j hj => ?_⟩
  · rw [h.at_ y h0 h1]
    show _ = DataW.lit (.int .i64 (stepF (fldP s k) (fmAt k) (byAt s k) y))
    unfold stepF
    rw [if_pos hs]
  · by_cases hjk : j < k
    · exact h.ok j hjk
    · obtain rfl : j = k := by omega
      unfold okAt
      rw [if_pos hs, hx]
      simp
theorem St.dig {s : ByteArray} {B k : Nat} {wr w2 : World} {D : DataW Unit} (h : St s B k wr D) (hs : isSep (fmAt k) = false) (hx : 48 ≤ byAt s k ∧ byAt s k ≤ 57) (hf : 0 ≤ fmAt k ∧ fmAt k < 256) {v : Int} (hv : v = wrap64 (wrap64 (10 * fldP s k (fmAt k)) + (byAt s k - 48))) (ho : w2.ownsMap Tryd.prog 5 (plainElem Tryd.prog 3) B (k + 1) (D.put (.int .u8 (fmAt k)) (.lit (.int .i64 v)))) : St s B (k + 1) w2 (D.put (.int .u8 (fmAt k)) (.lit (.int .i64 v))) := by
  refine ⟨ho, h.map.put _ _, fun y h0 h1 => ?_, fun j hj => ?_⟩
  · show _ = DataW.lit (.int .i64 (stepF (fldP s k) (fmAt k) (byAt s k) y))
    unfold stepF
    rw [if_neg (by rw [hs]; decide)]
    by_cases hy : y = fmAt k
    · rw [hy, if_pos rfl, atKey_put_same h.map (by trivial), hv]
    · rw [if_neg hy, atKey_put_other (by intro e; injection e with _ e; exact hy e), h.at_ y h0 h1]
  · by_cases hjk : j < k
    · exact h.ok j hjk
    · obtain rfl : j = k := by omega
      unfold okAt
      rw [if_neg (by rw [hs]; decide), decide_eq_true hx.1, decide_eq_true hx.2]
      rfl
theorem fm_rng : ∀ k, k < 27 → 0 ≤ fmAt k ∧ fmAt k < 256 := by decide
theorem by_rng (s : ByteArray) (k : Nat) : 0 ≤ byAt s k ∧ byAt s k < 256 := by
  have : (s.data.getD k 0).toNat < 256 := UInt8.toNat_lt _
  unfold byAt
  omega
theorem u8_wf {y : Int} (h0 : 0 ≤ y) (h1 : y < 256) : (Lit.int .u8 y).wf = true := WalkArith.wf_u8 ⟨h0, by omega⟩
theorem St.start (s : ByteArray) (w : World) : St s w.heap.size 0 (w.alloc (.map #[] 0)) (.map []) :=
  ⟨World.ownsMap_made _ _ _ _, isMap_empty, fun y _ _ => by rfl, fun j h => by omega⟩
theorem idx_text {s : ByteArray} {k : Nat} (h : k < s.size) (w : World) : (Instr.index 9 (.string s) (.int .i64 (k : Int))).run Tryd.prog w = .ok (.int .u8 (byAt s k)) w := by
  rw [run_index_string (h := Tryd.underlying9)]
  rw [dif_pos (show (0 : Int) ≤ (k : Int) ∧ (k : Int) < s.size by omega)]
  have e : s[(k : Int).toNat]'(by simp; exact h) = s.data.getD k 0 := by
    have h' : k < s.data.size := h
    rw [Array.getD_eq_getD_getElem?, Array.getElem?_eq_getElem h']
    rfl
  rw [e]
  rfl
theorem form_at : ∀ k, k < 27 → byAt ⟨#[89, 89, 89, 89, 45, 77, 77, 45, 68, 68, 84, 104, 104, 58, 109, 109, 58, 115, 115, 46, 117, 117, 117, 117, 117, 117, 90]⟩ k = fmAt k := by decide
theorem idx_form {k : Nat} (h : k < 27) (w : World) : (Instr.index 9 (.string ⟨#[89, 89, 89, 89, 45, 77, 77, 45, 68, 68, 84, 104, 104, 58, 109, 109, 58, 115, 115, 46, 117, 117, 117, 117, 117, 117, 90]⟩) (.int .i64 (k : Int))).run Tryd.prog w = .ok (.int .u8 (fmAt k)) w := by
  rw [← form_at k h]
  exact idx_text (s := ⟨#[89, 89, 89, 89, 45, 77, 77, 45, 68, 68, 84, 104, 104, 58, 109, 109, 58, 115, 115, 46, 117, 117, 117, 117, 117, 117, 90]⟩) h w
set_option maxHeartbeats 8000000 in
set_option maxRecDepth 100000 in
theorem parse_walk (p : Option Addr) (n c : Nat) (s : ByteArray) (w : World) (hs : s.size = 27) (r : Int × Int)
  (Q : Calls Tryd.prog 26 #[.slice p n c] w fun e w' => e = .returned (.bool true) ∧ Below w.heap.size w w')
  (Q2 : (∀ j, j < 27 → okAt (fmAt j) (byAt s j) = true) → ∀ V, Below w.heap.size w V → Calls Tryd.prog 23 #[.slice p n c, .agg #[.int .i64 (fldP s 27 89), .int .i64 (fldP s 27 77), .int .i64 (fldP s 27 68), .int .i64 (fldP s 27 104), .int .i64 (fldP s 27 109), .int .i64 (fldP s 27 115), .int .i64 (fldP s 27 117)]] V fun e w' => e = .returned (.tuple #[.int .i64 r.1, .int .i64 r.2]) ∧ Below V.heap.size V w')
  (Qb : ∀ j, j < 27 → okAt (fmAt j) (byAt s j) = false → r = (0, 3)) :
    Calls Tryd.prog 24 #[.slice p n c, .string s] w fun en w' => en = .returned (.tuple #[.int .i64 r.1, .int .i64 r.2]) ∧ Below w.heap.size w w' := by
  have hmm := @run_makeMap Tryd.prog
  have HQ := hide Q
  have HQ2 := hide Q2
  have HQb := hide Qb
  clear Q Q2 Qb
  go_enter Tryd.func24, Tryd.ntmps24
  go_wp2_with (first
    | (go_at_call 26; refine (HQ.out).mono ?_; rintro en w1 ⟨rfl, hb1⟩))
  have HB1 := hide hb1
  clear hb1
  go_loopw [17] (fun i wr => ∃ k : Nat, k ≤ 27 ∧ i = .int .i64 k ∧ (∃ D, St s w1.heap.size k wr D) ∧ Below w1.heap.size w1 wr) (fun i _ => 27 - (intOf i).toNat)
  case atStart => exact ⟨0, Nat.zero_le _, rfl, ⟨_, St.start s w1⟩, (Below.refl _ _).alloc (Nat.le_refl _) _⟩
  case round =>
    obtain ⟨k, hk, rfl, ⟨D, hst⟩, hB⟩ := hrel
    by_cases hk2 : k < 27
    · have hfi := idx_form hk2
      have hsi := idx_text (s := s) (k := k) (by omega)
      obtain ⟨f, hf⟩ : ∃ f, fmAt k = f := ⟨_, rfl⟩
      obtain ⟨x, hx⟩ : ∃ x, byAt s k = x := ⟨_, rfl⟩
      rw [hf] at hfi
      rw [hx] at hsi
      have rf := fm_rng k hk2
      have rx := by_rng s k
      rw [hf] at rf
      rw [hx] at rx
      have hfw := keyOf_int_mk Tryd.underlying5 (u8_wf rf.1 rf.2)
      have HF := hide hf
      have HX := hide hx
      have HST := hide hst
      have HB := hide hB
      have HRF := hide rf
      have HRX := hide rx
      have HK2 := hide hk2
      have HK := hide hk
      clear hf hx hst hB rf rx
      go_wp2
      go_region
      go_wp2_with (first
        | (at_lookup; refine wpList_lookup_own_int _ rfl _ _ 66 rfl 5 3 .i64 lawK Tryd.underlying66 Tryd.underlying3 (zeroK _) w1.heap.size k _ rfl HST.out.own.drew _ _ rfl hfw ?_; intro c hat hwc; obtain rfl := HST.out.get HRF.out.1 HRF.out.2 hat; clear hat hwc)
        | (at_mapUpdate; refine wpList_mapUpdate_own _ rfl _ _ _ 66 rfl 5 3 lawK Tryd.underlying66 _ w1.heap.size k _ rfl HST.out.own.drew (by have := HK.out; unfold maxLen; omega) _ _ _ rfl rfl hfw _ [] (plainElem_int Tryd.underlying3 (wrap64_wf _)) ?_; intro w2 hown2 hg2)
        | go_in)
      all_goals first
        | (have hsep : isSep f = true := by (unfold isSep; simp only [*, Bool.or_true, Bool.true_or, Bool.or_false, Bool.false_or])
           have hxf : (x != f) = true := by assumption
           refine bodyPost_ret (results_tmp2 rfl _ _ _) rfl ?_
           rw [HQb.out k HK2.out (by rw [HF.out, HX.out]; unfold okAt; rw [if_pos hsep]; simpa using hxf)]
           exact ⟨rfl, (HB1.out.trans (HB.out.mono HB1.out.size)).drew⟩)
        | (have hsep : isSep f = true := by (unfold isSep; simp only [*, Bool.or_true, Bool.true_or, Bool.or_false, Bool.false_or])
           have hxf : (x != f) = false := by assumption
           refine ⟨⟨k + 1, by have := HK2.out; omega, by simp, ⟨D, ?_⟩, HB.out.drew⟩, by have := HK2.out; simp [intOf]; omega⟩
           have h := HST.out.sep (by rw [HF.out]; exact hsep) (by rw [HF.out, HX.out]; simpa using hxf)
           exact ⟨h.own.drew, h.map, h.at_, h.ok⟩)
        | (have hsep : isSep f = false := by (unfold isSep; simp only [*, Bool.or_true, Bool.true_or, Bool.or_false, Bool.false_or])
           refine bodyPost_ret (results_tmp2 rfl _ _ _) rfl ?_
           rw [HQb.out k HK2.out (by rw [HF.out, HX.out]; unfold okAt; rw [if_neg (by rw [hsep]; decide)]; simp; omega)]
           exact ⟨rfl, (HB1.out.trans (HB.out.mono HB1.out.size)).drew⟩)
        | (have hsep : isSep f = false := by (unfold isSep; simp only [*, Bool.or_true, Bool.true_or, Bool.or_false, Bool.false_or])
           have hxd : 48 ≤ x ∧ x ≤ 57 := by assumption
           have e1 := HF.out
           have e2 := HX.out
           subst e1
           subst e2
           refine ⟨⟨k + 1, by have := HK2.out; omega, by simp, ⟨_, HST.out.dig hsep hxd HRF.out rfl hown2⟩, HB.out.drew.grown hg2 HB.out.size (fun j hj => by cases hj; exact Nat.le_refl _)⟩, by have := HK2.out; simp [intOf]; omega⟩)
    · obtain rfl : k = 27 := by omega
      have HST := hide hst
      have HB := hide hB
      clear hst hB
      have Q3 := hide (HQ2.out HST.out.ok wr (HB1.out.trans (HB.out.mono HB1.out.size)))
      go_wp2_with (first
        | (at_lookup; refine wpList_lookup_own_int _ rfl _ _ 66 rfl 5 3 .i64 lawK Tryd.underlying66 Tryd.underlying3 (zeroK _) w1.heap.size 27 _ rfl HST.out.own _ _ rfl (keyOf_int_mk Tryd.underlying5 (by decide)) ?_; intro c hat hwc; obtain rfl := HST.out.get (by decide) (by decide) hat; clear hat hwc)
        | (go_at_call 23; refine (Q3.out).mono ?_; rintro en w3 ⟨rfl, hb3⟩)
        | go_in)
      refine bodyPost_ret (results_tmp2 rfl _ _ _) rfl ?_
      exact ⟨rfl, (HB1.out.trans (HB.out.mono HB1.out.size)).trans (hb3.mono (Nat.le_trans HB1.out.size HB.out.size))⟩
set_option maxHeartbeats 8000000 in
set_option maxRecDepth 100000 in
theorem parse_table (p : Option Addr) (n c : Nat) (s : ByteArray) (w : World)
  (Q : Calls Tryd.prog 26 #[.slice p n c] w fun e w' => e = .returned (.bool false) ∧ Below w.heap.size w w') :
    Calls Tryd.prog 24 #[.slice p n c, .string s] w fun en w' => en = .returned (.tuple #[.int .i64 0, .int .i64 1]) ∧ Below w.heap.size w w' := by
  have HQ := hide Q
  clear Q
  go_enter Tryd.func24, Tryd.ntmps24
  go_wp2_with (first
    | (go_at_call 26; refine (HQ.out).mono ?_; rintro en w1 ⟨rfl, hb1⟩))
  refine bodyPost_ret (results_tmp2 rfl _ _ _) rfl ?_
  exact ⟨rfl, hb1⟩
set_option maxHeartbeats 8000000 in
set_option maxRecDepth 100000 in
theorem parse_len (p : Option Addr) (n c : Nat) (s : ByteArray) (w : World) (hs : s.size ≠ 27)
  (Q : Calls Tryd.prog 26 #[.slice p n c] w fun e w' => e = .returned (.bool true) ∧ Below w.heap.size w w') :
    Calls Tryd.prog 24 #[.slice p n c, .string s] w fun en w' => en = .returned (.tuple #[.int .i64 0, .int .i64 3]) ∧ Below w.heap.size w w' := by
  have HQ := hide Q
  have hs' : ((s.size : Int) != 27) = true := by simp; omega
  clear Q
  go_enter Tryd.func24, Tryd.ntmps24
  go_wp2_with (first
    | (go_at_call 26; refine (HQ.out).mono ?_; rintro en w1 ⟨rfl, hb1⟩))
  refine bodyPost_ret (results_tmp2 rfl _ _ _) rfl ?_
  exact ⟨rfl, hb1⟩
/-- A contract with a result that reads alike in every memory, as a call without memory. -/
theorem CallOk.plainT {P : Program} {f : FuncId} {args : List AV} {v : Value} {a : AV} (hv : ∀ M ρ σ, Rd M ρ σ v a) (hf : ∃ fn, P.funcs[f]? = some fn ∧ (fn.name == "runtime.NumGoroutine") = false ∧ fn.body.isNone = false)
    (h : ∀ (M : Mem) (w : World) (cargs : Array Value) (σ : Sig), GlOk M w [] (InT σ []) → (∀ g o x, M g o = some x → w.cell? ⟨g, o, none⟩ = some x) → cargs.size = args.length → (∀ i (h : i < cargs.size) (h' : i < args.length), Rd M (gsR []) σ cargs[i] args[i]) → Calls P f cargs w fun e w' => e = .returned v ∧ Below w.heap.size w w') :
    CallOk P f args [] ⟨a, [], none, [], [], []⟩ := by
  refine ⟨hf, fun M w cargs gs σ hgl mem hlt hn hl hsz hr hbx hda hT => ?_⟩
  obtain rfl : gs = [] := List.length_eq_zero_iff.1 hl
  refine (h M w cargs σ hgl mem hsz hr).mono fun e w' ⟨he, hb⟩ => ⟨v, M, σ, [], he, ?_⟩
  have same : ∀ g n, Row w g n → Row w' g n := fun g n q => q.of_heap (hb.block g q.lt)
  exact {
    sub := fun _ _ _ q => q
    mem := fun g o x q => by
      have q1 := mem g o x q
      have hg : g < w.heap.size := cell_lt q1
      rw [cell_of_heap (hb.block g hg)]
      exact q1
    same := fun _ _ _ _ => rfl
    frm := ⟨hb.os, hb.tape, hb.output, hb.size, fun k hk _ _ => hb.block k hk⟩
    olen := rfl
    outs := fun k h => by cases h
    data := fun k h => by cases h
    newn := fun _ => rfl
    new := fun cs h => by cases h
    val := hv _ _ _
    tok := fun t h => by cases h
    cap := fun t sp q => same _ _ (hT.cap t sp q)
    inj := fun t h => by cases h
    rows := same
    capin := fun k h => by cases h }
/-- A list of ints. -/
def intsOf : List (List AV) → Option (List Int)
  | [] => some []
  | [AV.v (.int .i64 s)] :: r => (match intsOf r with | some l => some (s :: l) | none => none)
  | _ => none
theorem intsOf_spec : ∀ {xs : List (List AV)} {l : List Int}, intsOf xs = some l → xs = rowsI l
  | [], l, h => by cases h; rfl
  | x :: r, l, h => by
    unfold intsOf at h
    split at h
    · rename_i heq; cases heq
    · rename_i s r' heq
      cases heq
      split at h
      · rename_i l' hl
        cases h
        rw [intsOf_spec hl]; rfl
      · cases h
    · cases h
theorem intsOf_rows (l : List Int) : intsOf (rowsI l) = some l := by
  induction l with
  | nil => rfl
  | cons s r ih =>
    show (match intsOf (rowsI r) with | some l => some (s :: l) | none => none) = _
    rw [ih]
/-- A call that returns two plain values. -/
theorem CallOk.pair {P : Program} {f : FuncId} {args : List AV} {a b : Value} (h : CallOk P f args [] ⟨.tup [.v a, .v b], [], none, [], [], []⟩) (W : World) (cargs : Array Value) (hsz : cargs.size = args.length) (hr : ∀ i (h : i < cargs.size) (h' : i < args.length), Rd (memOf W) (gsR []) sig0 cargs[i] args[i]) (hgl : GlOk (memOf W) W [] (InT sig0 [])) :
    Calls P f cargs W fun en w' => en = .returned (.tuple #[a, b]) ∧ Below W.heap.size W w' := by
  refine (h.2 (memOf W) W cargs [] sig0 hgl (fun _ _ _ h => h) (fun k g h => by cases h) (fun i j g h => by cases h) rfl hsz hr (fun k h => by cases h) (fun k h => by cases h) ⟨(fun t h => by cases h), (fun t sp h => by cases h), (fun t h => by cases h)⟩).mono fun en w' ⟨c, M', σ', gn, he, left⟩ => ?_
  have hv := left.val
  have hb : Below W.heap.size W w' := ⟨left.frm.os, left.frm.tape, left.frm.output, left.frm.size, fun k hk => left.frm.block k hk (fun h => by cases h) (fun ⟨t, h, _⟩ => by cases h)⟩
  clear left
  cases hv with
  | @tup _ _ cs _ hl hr2 =>
    have h2 : cs.size = 2 := hl
    have r0 := hr2 0 (by omega) (by simp)
    have r1 := hr2 1 (by omega) (by simp)
    have r0' : cs[0]'(by omega) = a := r0.v_inv
    have r1' : cs[1]'(by omega) = b := r1.v_inv
    refine ⟨?_, hb⟩
    rw [he]
    congr 2
    apply Array.ext
    · exact h2
    · intro i hi hi'
      have hi2 : i < 2 := by simpa using hi'
      rcases (show i = 0 ∨ i = 1 by omega) with rfl | rfl
      · exact r0'
      · exact r1'
/-! ### seismonet/utc.Parse (function 24) -/
/-- A text of the form. -/
def goodP (s : ByteArray) : Bool := decide (s.size = 27) && (List.range 27).all fun j => okAt (fmAt j) (byAt s j)
noncomputable def parP (N : Nat) (x : List (List AV) × ByteArray) : Option (Int × Int) :=
  match intsOf x.1 with
  | some l => (match F26_d N (rowsI l) with
    | some true => (if goodP x.2 = true then F23_d N (rowsI l, fldP x.2 27 89, fldP x.2 27 77, fldP x.2 27 68, fldP x.2 27 104, fldP x.2 27 109, fldP x.2 27 115, fldP x.2 27 117) else some (0, 3))
    | some false => some (0, 1)
    | none => none)
  | none => none
noncomputable def F24_s (N : Nat) : FSpec where
  X := List (List AV) × ByteArray
  Y := Int × Int
  ash := [[some 1], [none]]
  bsh := []
  S := ⟨[[none], [none]], [], [], [], []⟩
  bm := false
  pat := fun a b => match a, b with
    | [(AV.list 1 a0 none), (AV.v (.string a1))], [] => some (a0, a1)
    | _, _ => none
  args := fun x => [(AV.list 1 x.1 none), (AV.v (.string x.2))]
  bs := fun x => []
  ret := fun y => ⟨(AV.tup [(AV.v (.int .i64 y.1)), (AV.v (.int .i64 y.2))]), [], none, [], [], []⟩
  t := fun x α k => match parP N x with | some y => k y | none => none
noncomputable abbrev F24_d (N : Nat) (x : List (List AV) × ByteArray) : Option (Int × Int) := (F24_s N).d x
theorem F24_parF (N : Nat) : ParF (F24_s N).t := by
  intro x α β k k' r r' h h1
  revert h
  dsimp only [F24_s]
  (repeat' (first | (with_reducible refine par_ite ?_ ?_) | (with_reducible refine par_both ?_ ?_) | split)) <;> intro h <;> first | exact h1 _ h | (cases h; done)
theorem F24_pat (N : Nat) (a : List AV) (b : List (List AV)) (x : (F24_s N).X) (h : (F24_s N).pat a b = some x) : a = (F24_s N).args x ∧ b = (F24_s N).bs x := by
  dsimp only [F24_s] at h
  split at h
  · cases h; exact ⟨rfl, rfl⟩
  · cases h
theorem call_valid {N : Nat} {V : World} {p : Option Addr} {n c : Nat} {L : List Int} {y : Bool} (hy : F26_d N (rowsI L) = some y) (h : ILRow V p n L) (hs : Shp p n c) (hgl : GlOk (memOf V) V [] (InT sig0 [])) : Calls Tryd.prog 26 #[.slice p n c] V fun e w' => e = .returned (.bool y) ∧ Below V.heap.size V w' := by
  refine CallOk.calls ((F26_e N).ok (rowsI L) y hy) V _ rfl (fun i hi h' => ?_) hgl
  obtain rfl : i = 0 := by have : i < 1 := h'; omega
  exact h.rd hs _ _
theorem call_civil {N : Nat} {V : World} {p : Option Addr} {n c : Nat} {L : List Int} {a1 a2 a3 a4 a5 a6 a7 : Int} {y : Int × Int} (hy : F23_d N (rowsI L, a1, a2, a3, a4, a5, a6, a7) = some y) (h : ILRow V p n L) (hs : Shp p n c) (hgl : GlOk (memOf V) V [] (InT sig0 [])) : Calls Tryd.prog 23 #[.slice p n c, .agg #[.int .i64 a1, .int .i64 a2, .int .i64 a3, .int .i64 a4, .int .i64 a5, .int .i64 a6, .int .i64 a7]] V fun e w' => e = .returned (.tuple #[.int .i64 y.1, .int .i64 y.2]) ∧ Below V.heap.size V w' := by
  refine CallOk.pair ((F23_e N).ok (rowsI L, a1, a2, a3, a4, a5, a6, a7) y hy) V _ rfl (fun i hi h' => ?_) hgl
  rcases (show i = 0 ∨ i = 1 by have : i < 2 := h'; omega) with rfl | rfl
  · exact h.rd hs _ _
  · refine .agg rfl (fun i h => ?_) (fun i h h' => ?_)
    · have : i < 7 := h
      rcases (show i = 0 ∨ i = 1 ∨ i = 2 ∨ i = 3 ∨ i = 4 ∨ i = 5 ∨ i = 6 by omega) with rfl | rfl | rfl | rfl | rfl | rfl | rfl <;> rfl
    have : i < 7 := h'
    rcases (show i = 0 ∨ i = 1 ∨ i = 2 ∨ i = 3 ∨ i = 4 ∨ i = 5 ∨ i = 6 by omega) with rfl | rfl | rfl | rfl | rfl | rfl | rfl <;> exact .v
theorem parse_ok {N : Nat} {L : List Int} {s : ByteArray} {y : Int × Int} {l : List (List AV)} (hl : intsOf l = some L) (hy : parP N (l, s) = some y) {p : Option Addr} {n c : Nat} (hs : Shp p n c) (w : World) (hgl : GlOk (memOf w) w [] (InT sig0 [])) (hr : ILRow w p n L) : Calls Tryd.prog 24 #[.slice p n c, .string s] w fun en w' => en = .returned (.tuple #[.int .i64 y.1, .int .i64 y.2]) ∧ Below w.heap.size w w' := by
  unfold parP at hy
  simp only [hl] at hy
  split at hy
  · rename_i hv
    have Q := call_valid hv hr hs hgl
    by_cases h27 : s.size = 27
    · refine parse_walk p n c s w h27 y Q (fun hok V hB => ?_) (fun j hj hb => ?_)
      · have hg : goodP s = true := by
          unfold goodP
          rw [decide_eq_true h27, Bool.true_and, List.all_eq_true]
          exact fun j hj => hok j (List.mem_range.1 hj)
        rw [if_pos hg] at hy
        exact call_civil hy (hr.keep hB) hs (hgl.later hB)
      · have hg : ¬ goodP s = true := by
          intro h
          unfold goodP at h
          rw [decide_eq_true h27, Bool.true_and, List.all_eq_true] at h
          have := h j (List.mem_range.2 hj)
          rw [hb] at this
          cases this
        rw [if_neg hg] at hy
        cases hy; rfl
    · have hg : ¬ goodP s = true := by
        intro h
        unfold goodP at h
        rw [decide_eq_false h27] at h
        cases h
      rw [if_neg hg] at hy
      cases hy
      exact parse_len p n c s w h27 Q
  · rename_i hv
    cases hy
    exact parse_table p n c s w (call_valid hv hr hs hgl)
  · cases hy
noncomputable def F24_e (N : Nat) : Ent Tryd.prog where
  f := 24
  F := F24_s N
  ok := fun (x : List (List AV) × ByteArray) y h => by
    have h : (match parP N x with | some y => some y | none => none) = some y := h
    split at h
    · rename_i y' hy
      obtain rfl : y' = y := by injection h
      clear h
      obtain ⟨l, s⟩ := x
      obtain ⟨L, hL⟩ : ∃ L, intsOf l = some L := by
        cases hl : intsOf l with
        | some L => exact ⟨L, rfl⟩
        | none => unfold parP at hy; simp only [hl] at hy; cases hy
      have hxs := intsOf_spec hL
      refine CallOk.plainT (v := .tuple #[.int .i64 y'.1, .int .i64 y'.2]) (fun M ρ σ => .tup rfl (fun i h h' => ?_)) ⟨Tryd.f24, Tryd.func24, rfl, rfl⟩ fun M w cargs σ hgl mem hsz hr => ?_
      · have : i < 2 := h
        rcases (show i = 0 ∨ i = 1 by omega) with rfl | rfl
        · exact .v
        · exact .v
      · have h1 : cargs.size = 2 := hsz
        have h2 : Rd M (gsR []) σ (cargs[0]'(by omega)) (.list 1 l none) := hr 0 (by omega) (by show 0 < 2; omega)
        have h3 : Rd M (gsR []) σ (cargs[1]'(by omega)) (.v (.string s)) := hr 1 (by omega) (by show 1 < 2; omega)
        rw [hxs] at h2
        obtain ⟨p, n, c, e1, e2, e3⟩ := rd_row mem h2
        have e4 : cargs[1]'(by omega) = .string s := h3.v_inv
        have e : cargs = #[.slice p n c, .string s] := by
          apply Array.ext
          · exact h1
          · intro i hi hi'
            have hi0 : i < 2 := by simpa using hi'
            rcases (show i = 0 ∨ i = 1 by omega) with rfl | rfl
            · exact e1
            · exact e4
        rw [e]
        exact parse_ok hL hy e3 w (hgl.all mem) e2
    · cases h
  hp := F24_pat N
  hsl := fun y => rfl
theorem parseR {N : Nat} {L : List Int} {s : ByteArray} {y : Int × Int} (hv : F26_d N (rowsI L) = some true) (hg : goodP s = true) (hy : F23_d N (rowsI L, fldP s 27 89, fldP s 27 77, fldP s 27 68, fldP s 27 104, fldP s 27 109, fldP s 27 115, fldP s 27 117) = some y) : F24_d N (rowsI L, s) = some y := by
  show (match parP N (rowsI L, s) with | some y => some y | none => none) = _
  unfold parP
  simp only [intsOf_rows, hv, if_pos hg, hy]
end Go.Proofs.YtaanjciokdpkmaaDoor
/- Functions without memory. (written by sx.py) -/
namespace Go.Proofs.YtaanjciokdpkmaaDoor
open Go.RowKit
set_option linter.unusedVariables false
set_option linter.unusedSimpArgs false
set_option linter.unnecessarySimpa false
set_option maxRecDepth 4000
/-! ### seismonet/seismonetmade.Mod (function 21) -/
def F21_an : Nat → Keep × Keep := anL []
noncomputable def F21_g (N : Nat) : GamK := gam (P := Tryd.prog) []
noncomputable def F21_s (N : Nat) : FSpec where
  X := Int × Int
  Y := Int
  ash := [[none], [none]]
  bsh := []
  S := ⟨[[none]], [], [], [], []⟩
  bm := false
  pat := fun a b => match a, b with
    | [(AV.v (.int .i64 a0)), (AV.v (.int .i64 a1))], [] => some (a0, a1)
    | _, _ => none
  args := fun x => [(AV.v (.int .i64 x.1)), (AV.v (.int .i64 x.2))]
  bs := fun x => []
  ret := fun y => ⟨(AV.v (.int .i64 y)), [], none, [], [], []⟩
  t := fun x α k => (if x.2 = 0 then none else (if x.2 = 0 then none else (k ((i64 ((x.1.tmod x.2) + x.2)).tmod x.2))))
noncomputable abbrev F21_d (N : Nat) (x : Int × Int) : Option (Int) := (F21_s N).d x
theorem F21_parF (N : Nat) : ParF (F21_s N).t := by
  intro x α β k k' r r' h h1
  revert h
  dsimp only [F21_s]
  (repeat' (first | (with_reducible refine par_ite ?_ ?_) | (with_reducible refine par_both ?_ ?_) | split)) <;> intro h <;> first | exact h1 _ h | (cases h; done)
theorem F21_text (N : Nat) (x : (F21_s N).X) : acall (tabOf Tryd.prog) (F21_g N) F21_an (lam N []) Tryd.f21 (F21_s N).S ((F21_s N).args x) ((F21_s N).bs x) = (F21_s N).t x Ret (fun y => some ((F21_s N).ret y)) := by kernel_rfl
theorem F21_pat (N : Nat) (a : List AV) (b : List (List AV)) (x : (F21_s N).X) (h : (F21_s N).pat a b = some x) : a = (F21_s N).args x ∧ b = (F21_s N).bs x := by
  dsimp only [F21_s] at h
  split at h
  · cases h; exact ⟨rfl, rfl⟩
  · cases h
noncomputable def F21_e (N : Nat) : Ent Tryd.prog := entOf (tabOf_ok Tryd.prog) (gam_ok _) mixed 21 Tryd.f21 Tryd.func21 rfl F21_an (lam N []) (by
    have e : actOf F21_an (Tryd.f21.body.getD .skip) 0 = [] := by kernel_rfl
    rw [e]
    intro p hp
    cases hp) (F21_s N) (fun _ => ⟨rfl, rfl⟩) (F21_text N) (F21_pat N) (F21_parF N)
/-! ### seismonet/seismonetlaw01.times (function 20) -/
def F20_an : Nat → Keep × Keep := anL [(5, ⟨[0, 14, 15], [(7, 1)], [0], [(1, 1)], [], [], [], [], false⟩, ⟨[], [(7, 1)], [0], [], [], [], [], [], false⟩)]
noncomputable def F20_g (N : Nat) : GamK := gam (P := Tryd.prog) [F21_e N, F19_e N]
noncomputable def F20_l5 (N : Nat) : LSpec where
  X := (List (List AV)) × (List (List AV)) × Int × Int × (List (List AV)) × Int
  Y := ((List (List AV)) × (List (List AV)) × Int)
  p := fun s => match s.env.length, s.nin, s.at 7, s.at 1, s.at 0, s.at 14, s.at 15, s.bx 0 with
    | 37, 1, (AV.list 1 a0 (some 1280000448)), (AV.list 1 a1 none), (AV.ptr 0 0), (AV.v (.int .i64 a2)), (AV.v (.int .i64 a3)), some [(AV.list 1 a4 none), (AV.v (.int .i64 a5))] => some (a0, a1, a2, a3, a4, a5)
    | _, _, _, _, _, _, _, _ => none
  st := fun x => mkS 37 [(7, (AV.list 1 x.1 (some 1280000448))), (1, (AV.list 1 x.2.1 none)), (0, (AV.ptr 0 0)), (14, (AV.v (.int .i64 x.2.2.1))), (15, (AV.v (.int .i64 x.2.2.2.1)))] [(0, [(AV.list 1 x.2.2.2.2.1 none), (AV.v (.int .i64 x.2.2.2.2.2))])] (F20_an 5).1.toks 1
  out := fun y => (.exit 0, mkS 37 [(7, (AV.list 1 y.1 (some 1280000448)))] [(0, [(AV.list 1 y.2.1 none), (AV.v (.int .i64 y.2.2))])] (F20_an 5).2.toks 1)
  sp := fun y α k => k (.exit 0, mkS 37 [(7, (AV.list 1 y.1 (some 1280000448)))] [(0, [(AV.list 1 y.2.1 none), (AV.v (.int .i64 y.2.2))])] (F20_an 5).2.toks 1)
  spe := fun y α k => rfl
  b := fun x α kn ke => (match (decide (x.2.2.2.1 < x.2.2.1)) with | true => (if 0 ≤ x.2.2.2.1 then (match x.2.1[x.2.2.2.1.toNat]? with | some c8 => (match c8[0]? with | some x9 => (match x9 with | .v (.int q11 n10) => (if q11 = .i64 then (match F19_d N (3, x.2.2.2.2.1, x.2.2.2.2.2) with | some y12 => (match F19_d N (2, y12.2.1, y12.2.2) with | some y13 => (if (x.1.length + [[(AV.v (.int .i64 (i64 ((i64 ((i64 ((i64 (n10 * 1000000)) + (i64 (y12.1 * 1000000)))) - 1000000)) + (i64 (y13.1 * 999999))))))]].length) * 8 ≤ maxBytes then (kn ((x.1 ++ [[(AV.v (.int .i64 (i64 ((i64 ((i64 ((i64 (n10 * 1000000)) + (i64 (y12.1 * 1000000)))) - 1000000)) + (i64 (y13.1 * 999999))))))]]), x.2.1, x.2.2.1, (i64 (x.2.2.2.1 + 1)), y13.2.1, y13.2.2)) else none) | none => none) | none => none) else none) | _ => none) | none => none) | none => none) else none) | false => (ke (x.1, x.2.2.2.2.1, x.2.2.2.2.2)))
noncomputable abbrev F20_d5 (N : Nat) (x : (List (List AV)) × (List (List AV)) × Int × Int × (List (List AV)) × Int) : Option (((List (List AV)) × (List (List AV)) × Int)) := (F20_l5 N).L N x
noncomputable def F20_s (N : Nat) : FSpec where
  X := (List (List AV)) × Int × (List (List AV)) × Int
  Y := (List (List AV)) × (List (List AV)) × Int
  ash := [[none], [some 1], [none]]
  bsh := [[some 1, none]]
  S := ⟨[[some 2000001]], [[some 1, none]], [], [], []⟩
  bm := false
  pat := fun a b => match a, b with
    | [(AV.ptr 0 0), (AV.list 1 a0 none), (AV.v (.int .i64 a1))], [[(AV.list 1 a2 none), (AV.v (.int .i64 a3))]] => some (a0, a1, a2, a3)
    | _, _ => none
  args := fun x => [(AV.ptr 0 0), (AV.list 1 x.1 none), (AV.v (.int .i64 x.2.1))]
  bs := fun x => [[(AV.list 1 x.2.2.1 none), (AV.v (.int .i64 x.2.2.2))]]
  ret := fun y => ⟨(AV.list 1 y.1 (some 2560000000)), [[(AV.list 1 y.2.1 none), (AV.v (.int .i64 y.2.2))]], none, [], [2560000000], []⟩
  t := fun x α k => (match F21_d N (x.2.1, 9007199254740993) with | some y1 => (match F20_d5 N ([[(AV.v (.int .i64 x.2.1))], [(AV.v (.int .i64 0))], [(AV.v (.int .i64 9007199254740992))], [(AV.v (.int .i64 9007199254740993))], [(AV.v (.int .i64 (-1)))], [(AV.v (.int .i64 y1))]], x.1, (x.1.length : Int), 0, x.2.2.1, x.2.2.2) with | some y14 => (k (y14.1, y14.2.1, y14.2.2)) | none => none) | none => none)
noncomputable abbrev F20_d (N : Nat) (x : (List (List AV)) × Int × (List (List AV)) × Int) : Option ((List (List AV)) × (List (List AV)) × Int) := (F20_s N).d x
theorem F20_par5 (N : Nat) : Par (F20_l5 N).b := by
  intro x α β kn ke kn' ke' r r' h h1 h2
  revert h
  dsimp only [F20_l5]
  (repeat' (first | (with_reducible refine par_ite ?_ ?_) | (with_reducible refine par_both ?_ ?_) | split)) <;> intro h <;> first | exact h1 _ h | exact h2 _ h | (cases h; done)
theorem F20_body5 (N : Nat) (x : (F20_l5 N).X) (α : Type) (kn : AS → Option α) (ke : Out → Option α) : around (tabOf Tryd.prog) (F20_g N) F20_an (lam N [(5, F20_l5 N)]) 5 (bodyOf (nthLoop 5 (Tryd.f20.body.getD .skip))) ((F20_l5 N).st x) kn ke = (F20_l5 N).b x α (fun x' => kn ((F20_l5 N).st x')) (fun y => (F20_l5 N).sp y α ke) := by kernel_rfl
theorem F20_pat5 (N : Nat) (s : AS) (x : (F20_l5 N).X) (hc : s = canon (F20_an 5).1 s) (h : (F20_l5 N).p s = some x) : s = (F20_l5 N).st x := by
  dsimp only [F20_l5] at h
  split at h
  · cases h
    exact canon_mk hc ‹_› ‹_› rfl rfl rfl ⟨‹_›, ‹_›, ‹_›, ‹_›, ‹_›, trivial⟩ ⟨‹_›, trivial⟩
  · cases h
theorem F20_loop5 (N : Nat) : ∀ s o, s = canon (F20_an 5).1 s → (lam N [(5, F20_l5 N)]).v 5 s = some o → LoopSem Tryd.prog (nthLoop 5 (Tryd.f20.body.getD .skip)) s o :=
  loop_ok (tabOf_ok Tryd.prog) (gam_ok _) mixed F20_an N [(5, F20_l5 N)] 5 (bodyOf (nthLoop 5 (Tryd.f20.body.getD .skip))) (nthLoop 5 (Tryd.f20.body.getD .skip)) (by kernel_rfl) (by
    have e : actOf F20_an (bodyOf (nthLoop 5 (Tryd.f20.body.getD .skip))) (5 + 1) = [] := by kernel_rfl
    rw [e]
    intro p hp
    cases hp) (F20_l5 N) rfl (fun s x hc h => F20_pat5 N s x hc h) (fun x => rfl) (fun x α kn ke => (F20_body5 N x α kn ke).trans (congrArg ((F20_l5 N).b x α _) (funext fun y => (F20_l5 N).spe y α ke))) (F20_par5 N)
theorem F20_parF (N : Nat) : ParF (F20_s N).t := by
  intro x α β k k' r r' h h1
  revert h
  dsimp only [F20_s]
  (repeat' (first | (with_reducible refine par_ite ?_ ?_) | (with_reducible refine par_both ?_ ?_) | split)) <;> intro h <;> first | exact h1 _ h | (cases h; done)
theorem F20_text (N : Nat) (x : (F20_s N).X) : acall (tabOf Tryd.prog) (F20_g N) F20_an (lam N [(5, F20_l5 N)]) Tryd.f20 (F20_s N).S ((F20_s N).args x) ((F20_s N).bs x) = (F20_s N).t x Ret (fun y => some ((F20_s N).ret y)) := by kernel_rfl
theorem F20_pat (N : Nat) (a : List AV) (b : List (List AV)) (x : (F20_s N).X) (h : (F20_s N).pat a b = some x) : a = (F20_s N).args x ∧ b = (F20_s N).bs x := by
  dsimp only [F20_s] at h
  split at h
  · cases h; exact ⟨rfl, rfl⟩
  · cases h
noncomputable def F20_e (N : Nat) : Ent Tryd.prog := entOf (tabOf_ok Tryd.prog) (gam_ok _) mixed 20 Tryd.f20 Tryd.func20 rfl F20_an (lam N [(5, F20_l5 N)]) (by
    have e : actOf F20_an (Tryd.f20.body.getD .skip) 0 = [(5, nthLoop 5 (Tryd.f20.body.getD .skip))] := by kernel_rfl
    rw [e]
    intro p hp
    rcases List.mem_cons.1 hp with rfl | hp
    · exact F20_loop5 N
    cases hp) (F20_s N) (fun _ => ⟨rfl, rfl⟩) (F20_text N) (F20_pat N) (F20_parF N)
/-! ### seismonet/seismonetlaw01.UtcBack (function 6) -/
def F6_an : Nat → Keep × Keep := anL [(10, ⟨[30, 31], [], [], [(6, 1), (29, 1)], [], [], [], [], false⟩, ⟨[4], [], [], [], [], [], [], [], false⟩)]
noncomputable def F6_g (N : Nat) : GamK := gam (P := Tryd.prog) [F13_e N, F12_e N, F14_e N, F15_e N, F21_e N, F20_e N, F22_e N, F18_e N, F23_e N, F16_e N, F24_e N]
noncomputable def F6_l10 (N : Nat) : LSpec where
  X := (List (List AV)) × (List (List AV)) × Int × Int
  Y := (Bool) ⊕ (Unit)
  p := fun s => match s.env.length, s.nin, s.at 6, s.at 29, s.at 30, s.at 31 with
    | 93, 0, (AV.list 1 a0 none), (AV.list 1 a1 none), (AV.v (.int .i64 a2)), (AV.v (.int .i64 a3)) => some (a0, a1, a2, a3)
    | _, _, _, _, _, _ => none
  st := fun x => mkS 93 [(6, (AV.list 1 x.1 none)), (29, (AV.list 1 x.2.1 none)), (30, (AV.v (.int .i64 x.2.2.1))), (31, (AV.v (.int .i64 x.2.2.2)))] [] (F6_an 10).1.toks 0
  out := fun y => match y with
    | .inl y => (.ret, mkS 93 [(4, (AV.v (.bool y)))] [] (F6_an 10).2.toks 0)
    | .inr y => (.exit 0, mkS 93 [] [] (F6_an 10).2.toks 0)
  sp := fun y α k => match y with
    | .inl y => k (.ret, mkS 93 [(4, (AV.v (.bool y)))] [] (F6_an 10).2.toks 0)
    | .inr y => k (.exit 0, mkS 93 [] [] (F6_an 10).2.toks 0)
  spe := fun y α k => by rcases y with _ | _ <;> rfl
  b := fun x α kn ke => (match (decide (x.2.2.2 < x.2.2.1)) with | true => (if 0 ≤ x.2.2.2 then (match x.2.1[x.2.2.2.toNat]? with | some c7 => (match c7[0]? with | some x8 => (match x8 with | .v (.int q10 n9) => (if q10 = .i64 then (match F22_d N (n9, 0, 9007199254740992) with | some y11 => (match (!y11) with | true => (kn (x.1, x.2.1, x.2.2.1, (i64 (x.2.2.2 + 1)))) | false => (match F18_d N (x.1, n9) with | some y12 => (match F23_d N (x.1, y12.1, y12.2.1, y12.2.2.1, y12.2.2.2.1, y12.2.2.2.2.1, y12.2.2.2.2.2.1, y12.2.2.2.2.2.2.1) with | some y13 => (match F16_d N (x.1, n9) with | some y14 => (match F24_d N (x.1, y14.1) with | some y15 => (match (y12.2.2.2.2.2.2.2 != 0) with | true => (ke (.inl false)) | false => (match (y13.2 != 0) with | true => (ke (.inl false)) | false => (match (y14.2 != 0) with | true => (ke (.inl false)) | false => (match (y15.2 != 0) with | true => (ke (.inl false)) | false => (match (y13.1 != n9) with | true => (ke (.inl false)) | false => (match (y15.1 != n9) with | true => (ke (.inl false)) | false => (match ((y14.1.size : Int) != 27) with | true => (ke (.inl false)) | false => (kn (x.1, x.2.1, x.2.2.1, (i64 (x.2.2.2 + 1))))))))))) | none => none) | none => none) | none => none) | none => none)) | none => none) else none) | _ => none) | none => none) | none => none) else none) | false => (ke (.inr ())))
noncomputable abbrev F6_d10 (N : Nat) (x : (List (List AV)) × (List (List AV)) × Int × Int) : Option ((Bool) ⊕ (Unit)) := (F6_l10 N).L N x
noncomputable def F6_s (N : Nat) : FSpec where
  X := (List (List AV)) × Int
  Y := Bool
  ash := [[some 1], [none]]
  bsh := []
  S := ⟨[[none]], [], [], [], []⟩
  bm := false
  pat := fun a b => match a, b with
    | [(AV.list 1 a0 none), (AV.v (.int .i64 a1))], [] => some (a0, a1)
    | _, _ => none
  args := fun x => [(AV.list 1 x.1 none), (AV.v (.int .i64 x.2))]
  bs := fun x => []
  ret := fun y => ⟨(AV.v (.bool y)), [], none, [], [], []⟩
  t := fun x α k => (match F13_d N x.1 with | some y1 => (match (!y1) with | true => (match F12_d N () with | some y2 => (k y2) | none => none) | false => (match F14_d N x.1 with | some y3 => (match F15_d N (y3.1, y3.2) with | some y4 => (match F21_d N (x.2, 4000000000000000) with | some y5 => (match F20_d N (y4.1, y5, y4.2.1, y4.2.2) with | some y6 => (match F6_d10 N (y4.1, y6.1, (y6.1.length : Int), 0) with | some y16 => (match y16 with | .inl z17 => (k z17) | .inr z18 => (match F12_d N () with | some y19 => (k y19) | none => none)) | none => none) | none => none) | none => none) | none => none) | none => none)) | none => none)
noncomputable abbrev F6_d (N : Nat) (x : (List (List AV)) × Int) : Option (Bool) := (F6_s N).d x
theorem F6_par10 (N : Nat) : Par (F6_l10 N).b := by
  intro x α β kn ke kn' ke' r r' h h1 h2
  revert h
  dsimp only [F6_l10]
  (repeat' (first | (with_reducible refine par_ite ?_ ?_) | (with_reducible refine par_both ?_ ?_) | split)) <;> intro h <;> first | exact h1 _ h | exact h2 _ h | (cases h; done)
theorem F6_body10 (N : Nat) (x : (F6_l10 N).X) (α : Type) (kn : AS → Option α) (ke : Out → Option α) : around (tabOf Tryd.prog) (F6_g N) F6_an (lam N [(10, F6_l10 N)]) 10 (bodyOf (nthLoop 10 (Tryd.f6.body.getD .skip))) ((F6_l10 N).st x) kn ke = (F6_l10 N).b x α (fun x' => kn ((F6_l10 N).st x')) (fun y => (F6_l10 N).sp y α ke) := by kernel_rfl
theorem F6_pat10 (N : Nat) (s : AS) (x : (F6_l10 N).X) (hc : s = canon (F6_an 10).1 s) (h : (F6_l10 N).p s = some x) : s = (F6_l10 N).st x := by
  dsimp only [F6_l10] at h
  split at h
  · cases h
    exact canon_mk hc ‹_› ‹_› rfl rfl rfl ⟨‹_›, ‹_›, ‹_›, ‹_›, trivial⟩ trivial
  · cases h
theorem F6_loop10 (N : Nat) : ∀ s o, s = canon (F6_an 10).1 s → (lam N [(10, F6_l10 N)]).v 10 s = some o → LoopSem Tryd.prog (nthLoop 10 (Tryd.f6.body.getD .skip)) s o :=
  loop_ok (tabOf_ok Tryd.prog) (gam_ok _) mixed F6_an N [(10, F6_l10 N)] 10 (bodyOf (nthLoop 10 (Tryd.f6.body.getD .skip))) (nthLoop 10 (Tryd.f6.body.getD .skip)) (by kernel_rfl) (by
    have e : actOf F6_an (bodyOf (nthLoop 10 (Tryd.f6.body.getD .skip))) (10 + 1) = [] := by kernel_rfl
    rw [e]
    intro p hp
    cases hp) (F6_l10 N) rfl (fun s x hc h => F6_pat10 N s x hc h) (fun x => rfl) (fun x α kn ke => (F6_body10 N x α kn ke).trans (congrArg ((F6_l10 N).b x α _) (funext fun y => (F6_l10 N).spe y α ke))) (F6_par10 N)
theorem F6_parF (N : Nat) : ParF (F6_s N).t := by
  intro x α β k k' r r' h h1
  revert h
  dsimp only [F6_s]
  (repeat' (first | (with_reducible refine par_ite ?_ ?_) | (with_reducible refine par_both ?_ ?_) | split)) <;> intro h <;> first | exact h1 _ h | (cases h; done)
theorem F6_text (N : Nat) (x : (F6_s N).X) : acall (tabOf Tryd.prog) (F6_g N) F6_an (lam N [(10, F6_l10 N)]) Tryd.f6 (F6_s N).S ((F6_s N).args x) ((F6_s N).bs x) = (F6_s N).t x Ret (fun y => some ((F6_s N).ret y)) := by kernel_rfl
theorem F6_pat (N : Nat) (a : List AV) (b : List (List AV)) (x : (F6_s N).X) (h : (F6_s N).pat a b = some x) : a = (F6_s N).args x ∧ b = (F6_s N).bs x := by
  dsimp only [F6_s] at h
  split at h
  · cases h; exact ⟨rfl, rfl⟩
  · cases h
noncomputable def F6_e (N : Nat) : Ent Tryd.prog := entOf (tabOf_ok Tryd.prog) (gam_ok _) mixed 6 Tryd.f6 Tryd.func6 rfl F6_an (lam N [(10, F6_l10 N)]) (by
    have e : actOf F6_an (Tryd.f6.body.getD .skip) 0 = [(10, nthLoop 10 (Tryd.f6.body.getD .skip))] := by kernel_rfl
    rw [e]
    intro p hp
    rcases List.mem_cons.1 hp with rfl | hp
    · exact F6_loop10 N
    cases hp) (F6_s N) (fun _ => ⟨rfl, rfl⟩) (F6_text N) (F6_pat N) (F6_parF N)
end Go.Proofs.YtaanjciokdpkmaaDoor
