/- Moved. (written by gen_movedc.py) -/
import Derived.Test.YtlhphhiodckaaaaMovedB
namespace Go.Proofs.Ytlhphhiodckaaaa
open Go.RowKit
set_option linter.unusedVariables false
set_option linter.unusedSimpArgs false
def movB (L : List Rl) (di ev : Int) (a b : Ev) : Bool := decide (vE L di ev = 0 ∧ (levF L di ev a ≠ levF L di ev b ∨ (di ≤ 4194304 ∧ di * di < sqV a.x a.y a.z b.x b.y b.z) ∨ di < max a.tm b.tm - min a.tm b.tm ∨ agreeB a.lo a.hi b.lo b.hi = false))
theorem sq_bd' (d : Int) (h1 : 0 ≤ d) (h2 : d ≤ 4194304) : 0 ≤ d * d ∧ d * d ≤ 17592186044416 := by
  obtain ⟨n, rfl⟩ := Int.eq_ofNat_of_zero_le h1
  have h3 : n * n ≤ 4194304 * 4194304 := Nat.mul_le_mul (by omega) (by omega)
  have h4 : (n : Int) * (n : Int) = ((n * n : Nat) : Int) := by simp
  rw [h4]
  omega
theorem row_range {w : World} {g o : Nat} {cs : Array Value} {t : TypeId} {vs : List Value} (h : w.heap[g]? = some (.cells cs t (0, 0))) (hv : ∀ j v, vs[j]? = some v → cs[o + j]? = some v) : w.rangeAt g o vs := fun j v hj => boxed_at h (hv j v hj)
theorem sub_get {cs : Array Value} {vs : List Value} {o : Nat} (h : (cs.toList.drop o).take vs.length = vs) : ∀ j v, vs[j]? = some v → cs[o + j]? = some v := fun j v hj => by
  rw [← h] at hj
  rw [List.getElem?_take] at hj
  split at hj
  · rw [List.getElem?_drop] at hj; rw [← Array.getElem?_toList]; exact hj
  · cases hj

structure MovC (V : World) (g3 g4 g5 : Nat) (di : Int) (a b : Ev) (L : Nat → Bool) (u : Nat → Value) (x : World) : Prop where
  low : Below V.heap.size V x
  f0 : L 0 = true → u 13 = .pointer (some ⟨g4, 9, none⟩)
  f1 : L 1 = true → u 14 = .agg #[.slice a.p a.n a.c, .int .i64 a.x, .int .i64 a.y, .int .i64 a.z, .int .i64 a.tm, .int .i64 a.mf, .int .i64 a.lw, .int .i64 a.b1, .int .i64 a.b2, .int .i64 a.b3, .int .i64 a.b4, .int .i64 a.b5, .int .i64 a.b6, .int .i64 a.lo, .int .i64 a.hi, .int .i64 a.ct]
  f2 : L 2 = true → u 15 = .pointer (some ⟨g5, 9, none⟩)
  f3 : L 3 = true → u 16 = .agg #[.slice b.p b.n b.c, .int .i64 b.x, .int .i64 b.y, .int .i64 b.z, .int .i64 b.tm, .int .i64 b.mf, .int .i64 b.lw, .int .i64 b.b1, .int .i64 b.b2, .int .i64 b.b3, .int .i64 b.b4, .int .i64 b.b5, .int .i64 b.b6, .int .i64 b.lo, .int .i64 b.hi, .int .i64 b.ct]
  f4 : L 4 = true → u 17 = .pointer (some ⟨g3, 1, none⟩)
  f5 : L 5 = true → u 18 = .int .i64 di
  f6 : L 6 = true → ∃ k : Nat, u 7 = .pointer (some ⟨k, 0, none⟩) ∧ V.heap.size ≤ k ∧ (L 8 = false → x.heap[k]? = some (.cells #[.slice none 0 0, .int .i64 0, .int .i64 0, .int .i64 0, .int .i64 0, .int .i64 0, .int .i64 0, .int .i64 0, .int .i64 0, .int .i64 0, .int .i64 0, .int .i64 0, .int .i64 0, .int .i64 0, .int .i64 0, .int .i64 0] 41 (0, 0))) ∧ (L 8 = true → x.heap[k]? = some (.cells #[.slice a.p a.n a.c, .int .i64 a.x, .int .i64 a.y, .int .i64 a.z, .int .i64 a.tm, .int .i64 a.mf, .int .i64 a.lw, .int .i64 a.b1, .int .i64 a.b2, .int .i64 a.b3, .int .i64 a.b4, .int .i64 a.b5, .int .i64 a.b6, .int .i64 a.lo, .int .i64 a.hi, .int .i64 a.ct] 41 (0, 0))) ∧ (L 7 = true → u 8 ≠ u 7)
  f7 : L 7 = true → ∃ k : Nat, u 8 = .pointer (some ⟨k, 0, none⟩) ∧ V.heap.size ≤ k ∧ (L 9 = false → x.heap[k]? = some (.cells #[.slice none 0 0, .int .i64 0, .int .i64 0, .int .i64 0, .int .i64 0, .int .i64 0, .int .i64 0, .int .i64 0, .int .i64 0, .int .i64 0, .int .i64 0, .int .i64 0, .int .i64 0, .int .i64 0, .int .i64 0, .int .i64 0] 41 (0, 0))) ∧ (L 9 = true → x.heap[k]? = some (.cells #[.slice b.p b.n b.c, .int .i64 b.x, .int .i64 b.y, .int .i64 b.z, .int .i64 b.tm, .int .i64 b.mf, .int .i64 b.lw, .int .i64 b.b1, .int .i64 b.b2, .int .i64 b.b3, .int .i64 b.b4, .int .i64 b.b5, .int .i64 b.b6, .int .i64 b.lo, .int .i64 b.hi, .int .i64 b.ct] 41 (0, 0))) ∧ (L 6 = true → u 8 ≠ u 7)
  f10 : L 10 = true → u 9 = .int .i64 di
set_option maxHeartbeats 8000000 in
set_option maxRecDepth 100000 in
theorem rule_moved (L : List Rl) (di ev : Int) (p : Option Addr) (n c : Nat) (hn : n ≤ 1000000) (a b : Ev) (ha : -9223372036854775808 ≤ a.tm ∧ a.tm ≤ 9223372036854775807) (hb : -9223372036854775808 ≤ b.tm ∧ b.tm ≤ 9223372036854775807) (w : World) (hr : RlRow w p n L) :
    Calls Try.prog 23 #[.agg #[.slice p n c, .int .i64 di, .int .i64 ev], .agg #[.string a.a1, .string a.a2, .string a.a3, .string a.a4, .int .i64 a.t1, .int .i64 a.t2, .int .i64 a.t3, .int .i64 a.am, .int .i64 a.po, .slice a.p a.n a.c, .int .i64 a.x, .int .i64 a.y, .int .i64 a.z, .int .i64 a.tm, .int .i64 a.mf, .int .i64 a.lw, .int .i64 a.b1, .int .i64 a.b2, .int .i64 a.b3, .int .i64 a.b4, .int .i64 a.b5, .int .i64 a.b6, .int .i64 a.lo, .int .i64 a.hi, .int .i64 a.ct], .agg #[.string b.a1, .string b.a2, .string b.a3, .string b.a4, .int .i64 b.t1, .int .i64 b.t2, .int .i64 b.t3, .int .i64 b.am, .int .i64 b.po, .slice b.p b.n b.c, .int .i64 b.x, .int .i64 b.y, .int .i64 b.z, .int .i64 b.tm, .int .i64 b.mf, .int .i64 b.lw, .int .i64 b.b1, .int .i64 b.b2, .int .i64 b.b3, .int .i64 b.b4, .int .i64 b.b5, .int .i64 b.b6, .int .i64 b.lo, .int .i64 b.hi, .int .i64 b.ct]] w fun en w' => en = .returned (.bool (movB L di ev a b)) ∧ Below w.heap.size w w' := by
  have HB := hide (below3a (w := w) (.cells #[.slice p n c, .int .i64 di, .int .i64 ev] 24) (.cells #[.string a.a1, .string a.a2, .string a.a3, .string a.a4, .int .i64 a.t1, .int .i64 a.t2, .int .i64 a.t3, .int .i64 a.am, .int .i64 a.po, .slice a.p a.n a.c, .int .i64 a.x, .int .i64 a.y, .int .i64 a.z, .int .i64 a.tm, .int .i64 a.mf, .int .i64 a.lw, .int .i64 a.b1, .int .i64 a.b2, .int .i64 a.b3, .int .i64 a.b4, .int .i64 a.b5, .int .i64 a.b6, .int .i64 a.lo, .int .i64 a.hi, .int .i64 a.ct] 43) (.cells #[.string b.a1, .string b.a2, .string b.a3, .string b.a4, .int .i64 b.t1, .int .i64 b.t2, .int .i64 b.t3, .int .i64 b.am, .int .i64 b.po, .slice b.p b.n b.c, .int .i64 b.x, .int .i64 b.y, .int .i64 b.z, .int .i64 b.tm, .int .i64 b.mf, .int .i64 b.lw, .int .i64 b.b1, .int .i64 b.b2, .int .i64 b.b3, .int .i64 b.b4, .int .i64 b.b5, .int .i64 b.b6, .int .i64 b.lo, .int .i64 b.hi, .int .i64 b.ct] 43))
  have G3 := hide (pair_alloc (pair_alloc (heap_alloc_new w (.cells #[.slice p n c, .int .i64 di, .int .i64 ev] 24)) (.cells #[.string a.a1, .string a.a2, .string a.a3, .string a.a4, .int .i64 a.t1, .int .i64 a.t2, .int .i64 a.t3, .int .i64 a.am, .int .i64 a.po, .slice a.p a.n a.c, .int .i64 a.x, .int .i64 a.y, .int .i64 a.z, .int .i64 a.tm, .int .i64 a.mf, .int .i64 a.lw, .int .i64 a.b1, .int .i64 a.b2, .int .i64 a.b3, .int .i64 a.b4, .int .i64 a.b5, .int .i64 a.b6, .int .i64 a.lo, .int .i64 a.hi, .int .i64 a.ct] 43)) (.cells #[.string b.a1, .string b.a2, .string b.a3, .string b.a4, .int .i64 b.t1, .int .i64 b.t2, .int .i64 b.t3, .int .i64 b.am, .int .i64 b.po, .slice b.p b.n b.c, .int .i64 b.x, .int .i64 b.y, .int .i64 b.z, .int .i64 b.tm, .int .i64 b.mf, .int .i64 b.lw, .int .i64 b.b1, .int .i64 b.b2, .int .i64 b.b3, .int .i64 b.b4, .int .i64 b.b5, .int .i64 b.b6, .int .i64 b.lo, .int .i64 b.hi, .int .i64 b.ct] 43))
  have G4 := hide (pair_alloc (new_at (w := w.alloc (.cells #[.slice p n c, .int .i64 di, .int .i64 ev] 24)) (.cells #[.string a.a1, .string a.a2, .string a.a3, .string a.a4, .int .i64 a.t1, .int .i64 a.t2, .int .i64 a.t3, .int .i64 a.am, .int .i64 a.po, .slice a.p a.n a.c, .int .i64 a.x, .int .i64 a.y, .int .i64 a.z, .int .i64 a.tm, .int .i64 a.mf, .int .i64 a.lw, .int .i64 a.b1, .int .i64 a.b2, .int .i64 a.b3, .int .i64 a.b4, .int .i64 a.b5, .int .i64 a.b6, .int .i64 a.lo, .int .i64 a.hi, .int .i64 a.ct] 43) (g := w.heap.size + 1) (by simp)) (.cells #[.string b.a1, .string b.a2, .string b.a3, .string b.a4, .int .i64 b.t1, .int .i64 b.t2, .int .i64 b.t3, .int .i64 b.am, .int .i64 b.po, .slice b.p b.n b.c, .int .i64 b.x, .int .i64 b.y, .int .i64 b.z, .int .i64 b.tm, .int .i64 b.mf, .int .i64 b.lw, .int .i64 b.b1, .int .i64 b.b2, .int .i64 b.b3, .int .i64 b.b4, .int .i64 b.b5, .int .i64 b.b6, .int .i64 b.lo, .int .i64 b.hi, .int .i64 b.ct] 43))
  have G5 := hide (new_at (w := (w.alloc (.cells #[.slice p n c, .int .i64 di, .int .i64 ev] 24)).alloc (.cells #[.string a.a1, .string a.a2, .string a.a3, .string a.a4, .int .i64 a.t1, .int .i64 a.t2, .int .i64 a.t3, .int .i64 a.am, .int .i64 a.po, .slice a.p a.n a.c, .int .i64 a.x, .int .i64 a.y, .int .i64 a.z, .int .i64 a.tm, .int .i64 a.mf, .int .i64 a.lw, .int .i64 a.b1, .int .i64 a.b2, .int .i64 a.b3, .int .i64 a.b4, .int .i64 a.b5, .int .i64 a.b6, .int .i64 a.lo, .int .i64 a.hi, .int .i64 a.ct] 43)) (.cells #[.string b.a1, .string b.a2, .string b.a3, .string b.a4, .int .i64 b.t1, .int .i64 b.t2, .int .i64 b.t3, .int .i64 b.am, .int .i64 b.po, .slice b.p b.n b.c, .int .i64 b.x, .int .i64 b.y, .int .i64 b.z, .int .i64 b.tm, .int .i64 b.mf, .int .i64 b.lw, .int .i64 b.b1, .int .i64 b.b2, .int .i64 b.b3, .int .i64 b.b4, .int .i64 b.b5, .int .i64 b.b6, .int .i64 b.lo, .int .i64 b.hi, .int .i64 b.ct] 43) (g := w.heap.size + 1 + 1) (by simp))
  have HR := hide (hr.keep HB.out)
  have QV := hide (fun (V : World) (hV : RlRow V p n L) => rule_validate L di ev p n c V hV)
  have QA := hide (fun (V : World) (hV : RlRow V p n L) => rule_level L di ev p n c hn a V hV)
  have QB := hide (fun (V : World) (hV : RlRow V p n L) => rule_level L di ev p n c hn b V hV)
  have QS := hide (fun V => geo_square a.x a.y a.z b.x b.y b.z V)
  have QD := hide (fun V => rule_apart a.tm b.tm ha hb V)
  have QG := hide (fun V => mag_agree a.lo a.hi b.lo b.hi V)
  have HM := hide (show movB L di ev a b = decide (vE L di ev = 0 ∧ (levF L di ev a ≠ levF L di ev b ∨ (di ≤ 4194304 ∧ di * di < sqV a.x a.y a.z b.x b.y b.z) ∨ di < max a.tm b.tm - min a.tm b.tm ∨ agreeB a.lo a.hi b.lo b.hi = false)) from rfl)
  have HVD := hide (show vE L di ev = 0 → 0 ≤ di ∧ di ≤ 9007199254740992 from fun h => by unfold vE at h; split at h; (rename_i hh; exact ⟨hh.2.1.1, hh.2.2.1.1⟩); cases h)
  have HV01 := hide (show vE L di ev = 0 ∨ vE L di ev = 27 from by unfold vE; split; exact .inl rfl; exact .inr rfl)
  have HTB := hide (show 0 ≤ max a.tm b.tm - min a.tm b.tm ∧ max a.tm b.tm - min a.tm b.tm ≤ 18446744073709551615 from by omega)
  generalize movB L di ev a b = res at HM ⊢
  generalize vE L di ev = vv at QV HM HVD HV01
  generalize levF L di ev a = la at QA HM
  generalize levF L di ev b = lb at QB HM
  generalize sqV a.x a.y a.z b.x b.y b.z = sq at QS HM
  generalize max a.tm b.tm - min a.tm b.tm = td at QD HM HTB
  generalize agreeB a.lo a.hi b.lo b.hi = ag at QG HM
  clear hr ha hb
  go_enter Try.func23, Try.ntmps23
  go_upto_region 1 with fail
  generalize ((w.alloc (.cells #[.slice p n c, .int .i64 di, .int .i64 ev] 24)).alloc (.cells #[.string a.a1, .string a.a2, .string a.a3, .string a.a4, .int .i64 a.t1, .int .i64 a.t2, .int .i64 a.t3, .int .i64 a.am, .int .i64 a.po, .slice a.p a.n a.c, .int .i64 a.x, .int .i64 a.y, .int .i64 a.z, .int .i64 a.tm, .int .i64 a.mf, .int .i64 a.lw, .int .i64 a.b1, .int .i64 a.b2, .int .i64 a.b3, .int .i64 a.b4, .int .i64 a.b5, .int .i64 a.b6, .int .i64 a.lo, .int .i64 a.hi, .int .i64 a.ct] 43)).alloc (.cells #[.string b.a1, .string b.a2, .string b.a3, .string b.a4, .int .i64 b.t1, .int .i64 b.t2, .int .i64 b.t3, .int .i64 b.am, .int .i64 b.po, .slice b.p b.n b.c, .int .i64 b.x, .int .i64 b.y, .int .i64 b.z, .int .i64 b.tm, .int .i64 b.mf, .int .i64 b.lw, .int .i64 b.b1, .int .i64 b.b2, .int .i64 b.b3, .int .i64 b.b4, .int .i64 b.b5, .int .i64 b.b6, .int .i64 b.lo, .int .i64 b.hi, .int .i64 b.ct] 43) = V at HB G3 G4 G5 HR ⊢
  obtain ⟨c0, c1, c2, -, -, -⟩ := tri_cells G3.out
  rcases HV01.out with rfl | rfl
  · have HDI := HVD.out rfl
    obtain ⟨di0, di1⟩ := HDI
    go_upto_region 3 with (first
      | (go_at_call 13; (with_reducible refine (QV.out _ HR.out).mono ?_); rintro en w1 ⟨rfl, hb⟩; (have G3 := hide ((hb.block _ (Array.getElem?_eq_some_iff.1 G3.out).1).trans G3.out)); (have G4 := hide ((hb.block _ (Array.getElem?_eq_some_iff.1 G4.out).1).trans G4.out)); (have G5 := hide ((hb.block _ (Array.getElem?_eq_some_iff.1 G5.out).1).trans G5.out)); (have HL := hide (HB.out.trans (hb.mono HB.out.size))); (have HR := hide (HR.out.keep hb)); clear hb))
    clear c0 c1 c2
    have HW1 := hide (show w.heap.size + 1 + 1 < w1.heap.size from (Array.getElem?_eq_some_iff.1 G5.out).1)
    go_cut [7, 8, 9] from 7 to 19 (fun s7 s8 s9 wx => ∃ k7 k8 : Nat, s7 = .pointer (some ⟨k7, 0, none⟩) ∧ s8 = .pointer (some ⟨k8, 0, none⟩) ∧ s9 = .int .i64 di ∧ Hid (wx.heap[k7]? = some (.cells #[.slice a.p a.n a.c, .int .i64 a.x, .int .i64 a.y, .int .i64 a.z, .int .i64 a.tm, .int .i64 a.mf, .int .i64 a.lw, .int .i64 a.b1, .int .i64 a.b2, .int .i64 a.b3, .int .i64 a.b4, .int .i64 a.b5, .int .i64 a.b6, .int .i64 a.lo, .int .i64 a.hi, .int .i64 a.ct] 41 (0, 0))) ∧ Hid (wx.heap[k8]? = some (.cells #[.slice b.p b.n b.c, .int .i64 b.x, .int .i64 b.y, .int .i64 b.z, .int .i64 b.tm, .int .i64 b.mf, .int .i64 b.lw, .int .i64 b.b1, .int .i64 b.b2, .int .i64 b.b3, .int .i64 b.b4, .int .i64 b.b5, .int .i64 b.b6, .int .i64 b.lo, .int .i64 b.hi, .int .i64 b.ct] 41 (0, 0))) ∧ Hid (Below w1.heap.size w1 wx))
    case first =>
      have HPOL := True.intro
      clear HM HVD HV01 HTB QV QA QB QS QD QG HR HL HB HPOL
      obtain ⟨g3, eq3⟩ : ∃ g3, w.heap.size = g3 := ⟨_, rfl⟩
      rw [eq3] at G3 G4 G5 HW1 ⊢
      obtain ⟨g4, eq4⟩ : ∃ g4, g3 + 1 = g4 := ⟨_, rfl⟩
      rw [eq4] at G4 G5 HW1 ⊢
      obtain ⟨g5, eq5⟩ : ∃ g5, g4 + 1 = g5 := ⟨_, rfl⟩
      rw [eq5] at G5 HW1 ⊢
      have HW1 := HW1.out
      have hg3 : g3 < w1.heap.size := by omega
      have hg4 : g4 < w1.heap.size := by omega
      have hg5 : g5 < w1.heap.size := HW1
      clear HW1
      refine wp_region_inv2 (fun L a' w' => ∃ u : Nat → Value, a' = { tmps := #[.agg #[.slice p n c, .int .i64 di, .int .i64 ev], .agg #[.string a.a1, .string a.a2, .string a.a3, .string a.a4, .int .i64 a.t1, .int .i64 a.t2, .int .i64 a.t3, .int .i64 a.am, .int .i64 a.po, .slice a.p a.n a.c, .int .i64 a.x, .int .i64 a.y, .int .i64 a.z, .int .i64 a.tm, .int .i64 a.mf, .int .i64 a.lw, .int .i64 a.b1, .int .i64 a.b2, .int .i64 a.b3, .int .i64 a.b4, .int .i64 a.b5, .int .i64 a.b6, .int .i64 a.lo, .int .i64 a.hi, .int .i64 a.ct], .agg #[.string b.a1, .string b.a2, .string b.a3, .string b.a4, .int .i64 b.t1, .int .i64 b.t2, .int .i64 b.t3, .int .i64 b.am, .int .i64 b.po, .slice b.p b.n b.c, .int .i64 b.x, .int .i64 b.y, .int .i64 b.z, .int .i64 b.tm, .int .i64 b.mf, .int .i64 b.lw, .int .i64 b.b1, .int .i64 b.b2, .int .i64 b.b3, .int .i64 b.b4, .int .i64 b.b5, .int .i64 b.b6, .int .i64 b.lo, .int .i64 b.hi, .int .i64 b.ct], .pointer (some ⟨g3, 0, none⟩), .pointer (some ⟨g4, 0, none⟩), .pointer (some ⟨g5, 0, none⟩), .bool false, u 7, u 8, u 9, .agg #[.slice p n c, .int .i64 di, .int .i64 ev], .int .i64 0, .bool false, u 13, u 14, u 15, u 16, u 17, u 18, undef, undef, undef, undef, undef, undef, undef, undef, undef, undef, undef, undef, undef, undef, undef, undef, undef, undef, undef, undef, undef, undef, undef, undef, undef, undef, undef, undef, undef, undef, undef, undef, undef, undef, undef, undef, undef, undef, undef, undef, undef], defers := [] } ∧ MovC w1 g3 g4 g5 di a b L u w') (by kernel_rfl) (by kernel_rfl) ?h0 ?hs ?hd
      case h0 =>
        exact ⟨fun _ => undef, rfl, { low := (Below.refl _ _).drew, f0 := fun e => Bool.noConfusion e, f1 := fun e => Bool.noConfusion e, f2 := fun e => Bool.noConfusion e, f3 := fun e => Bool.noConfusion e, f4 := fun e => Bool.noConfusion e, f5 := fun e => Bool.noConfusion e, f6 := fun e => Bool.noConfusion e, f7 := fun e => Bool.noConfusion e, f10 := fun e => Bool.noConfusion e }⟩
      case hs =>
        refine (Steps2.cons ?_ (Steps2.cons ?_ (Steps2.cons ?_ (Steps2.cons ?_ (Steps2.cons ?_ (Steps2.cons ?_ (Steps2.cons ?_ (Steps2.cons ?_ (Steps2.cons ?_ (Steps2.cons ?_ (Steps2.cons ?_ Steps2.nil)))))))))))
        · intro L a' x hL hcl hc hI K' hK
          obtain ⟨u, rfl, hC⟩ := hI
          have HK := hide hK
          have HC := hide hC
          clear hK hC hc
          go_simp
          exact HK.out _ _ ⟨fun s => if s = 13 then .pointer (some ⟨g4, 9, none⟩) else u s, rfl, { HC.out with f0 := fun _ => rfl }⟩
        · intro L a' x hL hcl hc hI K' hK
          obtain ⟨u, rfl, hC⟩ := hI
          have d0 : L 0 = true := hc ⟨0, .data⟩ (by simp) rfl
          have HK := hide hK
          have HC := hide hC
          clear hK hC hc
          have e13 := HC.out.f0 d0
          refine wp_load_mid 41 (.tmp 13) rfl g4 9 (by simpa [Act.eval] using e13) [.slice a.p a.n a.c, .int .i64 a.x, .int .i64 a.y, .int .i64 a.z, .int .i64 a.tm, .int .i64 a.mf, .int .i64 a.lw, .int .i64 a.b1, .int .i64 a.b2, .int .i64 a.b3, .int .i64 a.b4, .int .i64 a.b5, .int .i64 a.b6, .int .i64 a.lo, .int .i64 a.hi, .int .i64 a.ct] _ (row_range ((HC.out.low.block g4 hg4).trans G4.out) (sub_get rfl)) Try.underlying41 rfl (by kernel_rfl) ?_
          exact HK.out _ _ ⟨fun s => if s = 14 then .agg #[.slice a.p a.n a.c, .int .i64 a.x, .int .i64 a.y, .int .i64 a.z, .int .i64 a.tm, .int .i64 a.mf, .int .i64 a.lw, .int .i64 a.b1, .int .i64 a.b2, .int .i64 a.b3, .int .i64 a.b4, .int .i64 a.b5, .int .i64 a.b6, .int .i64 a.lo, .int .i64 a.hi, .int .i64 a.ct] else u s, rfl, { HC.out with f1 := fun _ => rfl }⟩
        · intro L a' x hL hcl hc hI K' hK
          obtain ⟨u, rfl, hC⟩ := hI
          have HK := hide hK
          have HC := hide hC
          clear hK hC hc
          go_simp
          exact HK.out _ _ ⟨fun s => if s = 15 then .pointer (some ⟨g5, 9, none⟩) else u s, rfl, { HC.out with f2 := fun _ => rfl }⟩
        · intro L a' x hL hcl hc hI K' hK
          obtain ⟨u, rfl, hC⟩ := hI
          have d2 : L 2 = true := hc ⟨2, .data⟩ (by simp) rfl
          have HK := hide hK
          have HC := hide hC
          clear hK hC hc
          have e15 := HC.out.f2 d2
          refine wp_load_mid 41 (.tmp 15) rfl g5 9 (by simpa [Act.eval] using e15) [.slice b.p b.n b.c, .int .i64 b.x, .int .i64 b.y, .int .i64 b.z, .int .i64 b.tm, .int .i64 b.mf, .int .i64 b.lw, .int .i64 b.b1, .int .i64 b.b2, .int .i64 b.b3, .int .i64 b.b4, .int .i64 b.b5, .int .i64 b.b6, .int .i64 b.lo, .int .i64 b.hi, .int .i64 b.ct] _ (row_range ((HC.out.low.block g5 hg5).trans G5.out) (sub_get rfl)) Try.underlying41 rfl (by kernel_rfl) ?_
          exact HK.out _ _ ⟨fun s => if s = 16 then .agg #[.slice b.p b.n b.c, .int .i64 b.x, .int .i64 b.y, .int .i64 b.z, .int .i64 b.tm, .int .i64 b.mf, .int .i64 b.lw, .int .i64 b.b1, .int .i64 b.b2, .int .i64 b.b3, .int .i64 b.b4, .int .i64 b.b5, .int .i64 b.b6, .int .i64 b.lo, .int .i64 b.hi, .int .i64 b.ct] else u s, rfl, { HC.out with f3 := fun _ => rfl }⟩
        · intro L a' x hL hcl hc hI K' hK
          obtain ⟨u, rfl, hC⟩ := hI
          have HK := hide hK
          have HC := hide hC
          clear hK hC hc
          go_simp
          exact HK.out _ _ ⟨fun s => if s = 17 then .pointer (some ⟨g3, 1, none⟩) else u s, rfl, { HC.out with f4 := fun _ => rfl }⟩
        · intro L a' x hL hcl hc hI K' hK
          obtain ⟨u, rfl, hC⟩ := hI
          have d4 : L 4 = true := hc ⟨4, .data⟩ (by simp) rfl
          have HK := hide hK
          have HC := hide hC
          clear hK hC hc
          have e17 := HC.out.f4 d4
          have m0 : x.cell? ⟨g3, 1, none⟩ = some (.int .i64 di) := boxed_at ((HC.out.low.block g3 hg3).trans G3.out) rfl
          go_simp
          exact HK.out _ _ ⟨fun s => if s = 18 then .int .i64 di else u s, by simp [e17], { HC.out with f5 := fun _ => rfl }⟩
        · intro L a' x hL hcl hc hI K' hK
          obtain ⟨u, rfl, hC⟩ := hI
          have n8 : L 8 = false := by cases h : L 8; rfl; exact absurd ((fun h => (hcl 8 _ rfl h ⟨6, .data⟩ (by simp) rfl)) h) (by rw [hL]; simp)
          have HK := hide hK
          have HC := hide hC
          clear hK hC hc
          have HLT := hide (show L 7 = true → ∀ k' : Nat, u 8 = .pointer (some ⟨k', 0, none⟩) → k' ≠ x.heap.size from fun h k' hk' => by obtain ⟨k2, h1, h2, h3, h4, -⟩ := HC.out.f7 h; rw [h1] at hk'; injection hk' with hk'; injection hk' with hk'; injection hk' with hk'; subst hk'; cases hs : L 9; exact Nat.ne_of_lt (Array.getElem?_eq_some_iff.1 (h3 hs)).1; exact Nat.ne_of_lt (Array.getElem?_eq_some_iff.1 (h4 hs)).1)
          go_simp
          exact HK.out _ _ ⟨fun s => if s = 7 then .pointer (some ⟨x.heap.size, 0, none⟩) else u s, rfl, { HC.out with f6 := fun _ => ⟨x.heap.size, rfl, HC.out.low.size, fun _ => heap_alloc_new _ _, fun h => absurd (show L 8 = true from h) (by rw [n8]; simp), fun h => (by obtain ⟨k', h1, h2, h3, h4, -⟩ := HC.out.f7 h; intro hh; change u 8 = Value.pointer (some ⟨x.heap.size, 0, none⟩) at hh; rw [h1] at hh; injection hh with hh; injection hh with hh; injection hh with hh; exact HLT.out h k' h1 hh)⟩, low := HC.out.low.alloc HC.out.low.size _, f7 := fun h => by obtain ⟨k', h1, h2, h3, h4, h5⟩ := HC.out.f7 h; exact ⟨k', h1, h2, fun e => pair_alloc (h3 e) _, fun e => pair_alloc (h4 e) _, fun _ hh => HLT.out h k' h1 (by change u 8 = Value.pointer (some ⟨x.heap.size, 0, none⟩) at hh; rw [h1] at hh; injection hh with hh; injection hh with hh; injection hh with hh; try exact hh)⟩ }⟩
        · intro L a' x hL hcl hc hI K' hK
          obtain ⟨u, rfl, hC⟩ := hI
          have n9 : L 9 = false := by cases h : L 9; rfl; exact absurd ((fun h => (hcl 9 _ rfl h ⟨7, .data⟩ (by simp) rfl)) h) (by rw [hL]; simp)
          have HK := hide hK
          have HC := hide hC
          clear hK hC hc
          have HLT := hide (show L 6 = true → ∀ k' : Nat, u 7 = .pointer (some ⟨k', 0, none⟩) → k' ≠ x.heap.size from fun h k' hk' => by obtain ⟨k2, h1, h2, h3, h4, -⟩ := HC.out.f6 h; rw [h1] at hk'; injection hk' with hk'; injection hk' with hk'; injection hk' with hk'; subst hk'; cases hs : L 8; exact Nat.ne_of_lt (Array.getElem?_eq_some_iff.1 (h3 hs)).1; exact Nat.ne_of_lt (Array.getElem?_eq_some_iff.1 (h4 hs)).1)
          go_simp
          exact HK.out _ _ ⟨fun s => if s = 8 then .pointer (some ⟨x.heap.size, 0, none⟩) else u s, rfl, { HC.out with f7 := fun _ => ⟨x.heap.size, rfl, HC.out.low.size, fun _ => heap_alloc_new _ _, fun h => absurd (show L 9 = true from h) (by rw [n9]; simp), fun h => (by obtain ⟨k', h1, h2, h3, h4, -⟩ := HC.out.f6 h; intro hh; change Value.pointer (some ⟨x.heap.size, 0, none⟩) = u 7 at hh; rw [h1] at hh; injection hh with hh; injection hh with hh; injection hh with hh; exact HLT.out h k' h1 hh.symm)⟩, low := HC.out.low.alloc HC.out.low.size _, f6 := fun h => by obtain ⟨k', h1, h2, h3, h4, h5⟩ := HC.out.f6 h; exact ⟨k', h1, h2, fun e => pair_alloc (h3 e) _, fun e => pair_alloc (h4 e) _, fun _ hh => HLT.out h k' h1 (by change Value.pointer (some ⟨x.heap.size, 0, none⟩) = u 7 at hh; rw [h1] at hh; injection hh with hh; injection hh with hh; injection hh with hh; try exact hh.symm)⟩ }⟩
        · intro L a' x hL hcl hc hI K' hK
          obtain ⟨u, rfl, hC⟩ := hI
          have d6 : L 6 = true := hc ⟨6, .data⟩ (by simp) rfl
          have d1 : L 1 = true := hc ⟨1, .data⟩ (by simp) rfl
          have HK := hide hK
          have HC := hide hC
          clear hK hC hc
          obtain ⟨k, e7, hk, hz, -, hne⟩ := HC.out.f6 d6
          have e14 := HC.out.f1 d1
          have HZ := hide (hz hL)
          refine wp_store_mid 41 (.tmp 7) (.tmp 14) rfl k 0 #[.slice a.p a.n a.c, .int .i64 a.x, .int .i64 a.y, .int .i64 a.z, .int .i64 a.tm, .int .i64 a.mf, .int .i64 a.lw, .int .i64 a.b1, .int .i64 a.b2, .int .i64 a.b3, .int .i64 a.b4, .int .i64 a.b5, .int .i64 a.b6, .int .i64 a.lo, .int .i64 a.hi, .int .i64 a.ct] (by simpa [Act.eval] using e7) (by simpa [Act.eval] using e14) (there_row HZ.out 0 16 (by simp)) (by kernel_rfl) (by simp [Value.oneCell']) ?_
          have HS := hide ((sets_heap [.slice a.p a.n a.c, .int .i64 a.x, .int .i64 a.y, .int .i64 a.z, .int .i64 a.tm, .int .i64 a.mf, .int .i64 a.lw, .int .i64 a.b1, .int .i64 a.b2, .int .i64 a.b3, .int .i64 a.b4, .int .i64 a.b5, .int .i64 a.b6, .int .i64 a.lo, .int .i64 a.hi, .int .i64 a.ct] x _ 0 HZ.out).trans (show _ = some (.cells #[.slice a.p a.n a.c, .int .i64 a.x, .int .i64 a.y, .int .i64 a.z, .int .i64 a.tm, .int .i64 a.mf, .int .i64 a.lw, .int .i64 a.b1, .int .i64 a.b2, .int .i64 a.b3, .int .i64 a.b4, .int .i64 a.b5, .int .i64 a.b6, .int .i64 a.lo, .int .i64 a.hi, .int .i64 a.ct] 41 (0, 0)) from by kernel_rfl))
          have HO := hide (fun k' (hk' : k' ≠ k) => sets_other hk' [.slice a.p a.n a.c, .int .i64 a.x, .int .i64 a.y, .int .i64 a.z, .int .i64 a.tm, .int .i64 a.mf, .int .i64 a.lw, .int .i64 a.b1, .int .i64 a.b2, .int .i64 a.b3, .int .i64 a.b4, .int .i64 a.b5, .int .i64 a.b6, .int .i64 a.lo, .int .i64 a.hi, .int .i64 a.ct] x 0)
          exact HK.out _ _ ⟨u, rfl, { HC.out with low := (HC.out.low.trans ((sets_below _ x 0).mono hk)), f6 := fun _ => ⟨k, e7, hk, fun h => Bool.noConfusion h, fun _ => HS.out, hne⟩, f7 := fun h => by obtain ⟨k', h1, h2, h3, h4, h5⟩ := HC.out.f7 h; have hkk : k' ≠ k := (by intro hh; subst hh; exact (hne h) (by rw [h1, e7])); exact ⟨k', h1, h2, fun e => (HO.out k' hkk).trans (h3 e), fun e => (HO.out k' hkk).trans (h4 e), h5⟩ }⟩
        · intro L a' x hL hcl hc hI K' hK
          obtain ⟨u, rfl, hC⟩ := hI
          have d7 : L 7 = true := hc ⟨7, .data⟩ (by simp) rfl
          have d3 : L 3 = true := hc ⟨3, .data⟩ (by simp) rfl
          have d8 : L 8 = true := hc ⟨8, .chain⟩ (by simp) rfl
          have HK := hide hK
          have HC := hide hC
          clear hK hC hc
          obtain ⟨k, e8, hk, hz, -, hne⟩ := HC.out.f7 d7
          have e16 := HC.out.f3 d3
          have HZ := hide (hz hL)
          refine wp_store_mid 41 (.tmp 8) (.tmp 16) rfl k 0 #[.slice b.p b.n b.c, .int .i64 b.x, .int .i64 b.y, .int .i64 b.z, .int .i64 b.tm, .int .i64 b.mf, .int .i64 b.lw, .int .i64 b.b1, .int .i64 b.b2, .int .i64 b.b3, .int .i64 b.b4, .int .i64 b.b5, .int .i64 b.b6, .int .i64 b.lo, .int .i64 b.hi, .int .i64 b.ct] (by simpa [Act.eval] using e8) (by simpa [Act.eval] using e16) (there_row HZ.out 0 16 (by simp)) (by kernel_rfl) (by simp [Value.oneCell']) ?_
          have HS := hide ((sets_heap [.slice b.p b.n b.c, .int .i64 b.x, .int .i64 b.y, .int .i64 b.z, .int .i64 b.tm, .int .i64 b.mf, .int .i64 b.lw, .int .i64 b.b1, .int .i64 b.b2, .int .i64 b.b3, .int .i64 b.b4, .int .i64 b.b5, .int .i64 b.b6, .int .i64 b.lo, .int .i64 b.hi, .int .i64 b.ct] x _ 0 HZ.out).trans (show _ = some (.cells #[.slice b.p b.n b.c, .int .i64 b.x, .int .i64 b.y, .int .i64 b.z, .int .i64 b.tm, .int .i64 b.mf, .int .i64 b.lw, .int .i64 b.b1, .int .i64 b.b2, .int .i64 b.b3, .int .i64 b.b4, .int .i64 b.b5, .int .i64 b.b6, .int .i64 b.lo, .int .i64 b.hi, .int .i64 b.ct] 41 (0, 0)) from by kernel_rfl))
          have HO := hide (fun k' (hk' : k' ≠ k) => sets_other hk' [.slice b.p b.n b.c, .int .i64 b.x, .int .i64 b.y, .int .i64 b.z, .int .i64 b.tm, .int .i64 b.mf, .int .i64 b.lw, .int .i64 b.b1, .int .i64 b.b2, .int .i64 b.b3, .int .i64 b.b4, .int .i64 b.b5, .int .i64 b.b6, .int .i64 b.lo, .int .i64 b.hi, .int .i64 b.ct] x 0)
          exact HK.out _ _ ⟨u, rfl, { HC.out with low := (HC.out.low.trans ((sets_below _ x 0).mono hk)), f7 := fun _ => ⟨k, e8, hk, fun h => Bool.noConfusion h, fun _ => HS.out, hne⟩, f6 := fun h => by obtain ⟨k', h1, h2, h3, h4, h5⟩ := HC.out.f6 h; have hkk : k' ≠ k := (by intro hh; subst hh; exact (hne h) (by rw [h1, e8])); exact ⟨k', h1, h2, fun e => (HO.out k' hkk).trans (h3 e), fun e => (HO.out k' hkk).trans (h4 e), h5⟩ }⟩
        · intro L a' x hL hcl hc hI K' hK
          obtain ⟨u, rfl, hC⟩ := hI
          have d5 : L 5 = true := hc ⟨5, .data⟩ (by simp) rfl
          have d9 : L 9 = true := hc ⟨9, .chain⟩ (by simp) rfl
          have HK := hide hK
          have HC := hide hC
          clear hK hC hc
          have e18 := HC.out.f5 d5
          go_simp
          exact HK.out _ _ ⟨fun s => if s = 9 then .int .i64 di else u s, by simp [e18], { HC.out with f10 := fun _ => rfl }⟩
      case hd =>
        rintro L a' x hall ⟨u, rfl, hC⟩
        obtain ⟨k7, e7, h7, -, b7, -⟩ := hC.f6 (hall 6 (by decide))
        obtain ⟨k8, e8, h8, -, b8, -⟩ := hC.f7 (hall 7 (by decide))
        have e9 := hC.f10 (hall 10 (by decide))
        have B7 := hide (b7 (hall 8 (by decide)))
        have B8 := hide (b8 (hall 9 (by decide)))
        have LOW := hide hC.low
        clear hC hall b7 b8
        rw [e7, e8, e9]
        subst eq5
        subst eq4
        subst eq3
        go_wp2_with fail
        go_meet
        exact ⟨k7, k8, rfl, rfl, rfl, B7, B8, LOW⟩
    case rest =>
      obtain ⟨k7, k8, rfl, rfl, rfl, B7, B8, LOW⟩ := hcut
      have G3 := hide ((LOW.out.block _ (by have := HW1.out; omega)).trans G3.out)
      have G4 := hide ((LOW.out.block _ (by have := HW1.out; omega)).trans G4.out)
      have G5 := hide ((LOW.out.block _ HW1.out).trans G5.out)
      have HR := hide (HR.out.keep LOW.out)
      have HL := hide (HL.out.trans (LOW.out.mono HL.out.size))
      clear LOW HW1
      generalize wc = w2 at B7 B8 G3 G4 G5 HR HL ⊢
      go_upto_region 4 with fail
      refine wp_region_grown (by kernel_rfl) (by kernel_rfl) ?_
      have M3 := hide (fun W (h : ∃ p, W = more w2 p) => show W.heap[w.heap.size]? = _ from by obtain ⟨q, rfl⟩ := h; exact heap_more G3.out q)
      have M4 := hide (fun W (h : ∃ p, W = more w2 p) => show W.heap[w.heap.size + 1]? = _ from by obtain ⟨q, rfl⟩ := h; exact heap_more G4.out q)
      have M5 := hide (fun W (h : ∃ p, W = more w2 p) => show W.heap[w.heap.size + 1 + 1]? = _ from by obtain ⟨q, rfl⟩ := h; exact heap_more G5.out q)
      have HRM := hide (fun q => HR.out.keep (below_more w2 q))
      repeat (first
        | (refine wpQuiet_load_row (by rfl) 24 (.tmp 3) (by rfl) w.heap.size (by rfl) 24 _ (0, 0) _ M3.out Try.underlying24 rfl (by kernel_rfl) ?_; simp only [Act.put, List.setIfInBounds_toArray, List.set_cons_succ, List.set_cons_zero])
        | (refine wpQuiet_load_row (by rfl) 43 (.tmp 4) (by rfl) (w.heap.size + 1) (by rfl) 43 _ (0, 0) _ M4.out Try.underlying43 rfl (by kernel_rfl) ?_; simp only [Act.put, List.setIfInBounds_toArray, List.set_cons_succ, List.set_cons_zero])
        | (refine wpQuiet_load_row (by rfl) 43 (.tmp 5) (by rfl) (w.heap.size + 1 + 1) (by rfl) 43 _ (0, 0) _ M5.out Try.underlying43 rfl (by kernel_rfl) ?_; simp only [Act.put, List.setIfInBounds_toArray, List.set_cons_succ, List.set_cons_zero])
        | go_big_quiet_step ((first
            | (go_at_call 15; with_reducible exact more_of (QA.out _ (HRM.out _)))
            | (go_at_call 15; with_reducible exact more_of (QB.out _ (HRM.out _))))))
      refine wpQuiet_nil ?_
      intro w3 hb3
      have B7 := hide ((hb3.block _ (Array.getElem?_eq_some_iff.1 B7.out).1).trans B7.out)
      have B8 := hide ((hb3.block _ (Array.getElem?_eq_some_iff.1 B8.out).1).trans B8.out)
      have HL := hide (HL.out.trans (hb3.mono HL.out.size))
      have M := hide (show ∀ q : Prop, [Decidable q] → ((la ≠ lb ∨ (di ≤ 4194304 ∧ di * di < sq) ∨ di < td ∨ ag = false) ↔ q) → res = decide q from fun q _ hq => by rw [HM.out]; exact decide_eq_decide.2 (by rw [← hq]; simp))
      have HT := hide (fun (h : la ≠ lb ∨ (di ≤ 4194304 ∧ di * di < sq) ∨ di < td ∨ ag = false) => (show Ending.returned (.bool true) = .returned (.bool res) from by rw [HM.out, decide_eq_true ⟨by trivial, h⟩]))
      have HF := hide (fun (h : ¬ (la ≠ lb ∨ (di ≤ 4194304 ∧ di * di < sq) ∨ di < td)) => (show Ending.returned (.bool (!ag)) = .returned (.bool res) from by
        rw [HM.out]
        cases ag
        · rw [decide_eq_true ⟨by trivial, .inr (.inr (.inr rfl))⟩]; rfl
        · rw [decide_eq_false (fun h' => by rcases h'.2 with h1 | h1 | h1 | h1; exact h (.inl h1); exact h (.inr (.inl h1)); exact h (.inr (.inr h1)); cases h1)]; rfl))
      have HTB := HTB.out
      clear hb3 M HM HVD HV01 G3 G4 G5 M3 M4 M5 HRM HR QV QA QB
      by_cases hl : la = lb
      · have dl : ((la : Int) != (lb : Int)) = false := by simp [hl]
        rw [dl]
        clear dl
        have hw : di ≤ 4194304 → IntKind.i64.wrap (di * di) = di * di := fun h => by have := sq_bd' di di0 h; rw [IntKind.wrap_i64]; omega
        have hu : IntKind.u64.wrap di = di := by rw [IntKind.wrap_u64]; omega
        have k1 := boxed_at B7.out (i := 1) rfl
        have k2 := boxed_at B7.out (i := 2) rfl
        have k3 := boxed_at B7.out (i := 3) rfl
        have k4 := boxed_at B8.out (i := 1) rfl
        have k5 := boxed_at B8.out (i := 2) rfl
        have k6 := boxed_at B8.out (i := 3) rfl
        by_cases hd : di ≤ 4194304
        · have dd : decide (di ≤ 4194304) = true := by simpa using hd
          have hw := hw hd
          by_cases hs : di * di < sq
          · have ds : decide (di * di < sq) = true := by simpa using hs
            have HT := hide (HT.out (.inr (.inl ⟨hd, hs⟩)))
            clear hs hd hl HF HTB
            go_wp2_with (first
              | (go_at_call 33; (with_reducible refine (QS.out _).mono ?_); rintro en w4 ⟨rfl, hb⟩; (have HL4 := hide (HL.out.trans (hb.mono HL.out.size))); clear hb))
            go_ret
            exact ⟨HT.out, HL4.out⟩
          · have ds : decide (di * di < sq) = false := by simpa using hs
            have HS := hide hs
            have HD := hide hd
            have HLE := hide hl
            clear hs hd hl
            by_cases ht : di < td
            · have dt : decide (di < td) = true := by simpa using ht
              have HT := hide (HT.out (.inr (.inr (.inl ht))))
              clear ht HF HTB
              go_wp2_with (first
                | (go_at_call 33; (with_reducible refine (QS.out _).mono ?_); rintro en w4 ⟨rfl, hb⟩; (have HL4 := hide (HL.out.trans (hb.mono HL.out.size))); (have k7' := boxed_at ((hb.block _ (Array.getElem?_eq_some_iff.1 B7.out).1).trans B7.out) (i := 4) rfl); (have k8' := boxed_at ((hb.block _ (Array.getElem?_eq_some_iff.1 B8.out).1).trans B8.out) (i := 4) rfl); clear hb)
                | (go_at_call 34; (with_reducible refine (QD.out _).mono ?_); rintro en w5 ⟨rfl, rfl⟩))
              go_ret
              exact ⟨HT.out, HL4.out⟩
            · have dt : decide (di < td) = false := by simpa using ht
              have HF := hide (HF.out (by rintro (h1 | h1 | h1); exact h1 HLE.out; exact HS.out h1.2; exact ht h1))
              clear ht HT HTB
              go_wp2_with (first
                | (go_at_call 33; (with_reducible refine (QS.out _).mono ?_); rintro en w4 ⟨rfl, hb⟩; (have HL4 := hide (HL.out.trans (hb.mono HL.out.size))); (have k7' := boxed_at ((hb.block _ (Array.getElem?_eq_some_iff.1 B7.out).1).trans B7.out) (i := 4) rfl); (have k8' := boxed_at ((hb.block _ (Array.getElem?_eq_some_iff.1 B8.out).1).trans B8.out) (i := 4) rfl); (have k71 := boxed_at ((hb.block _ (Array.getElem?_eq_some_iff.1 B7.out).1).trans B7.out) (i := 13) rfl); (have k72 := boxed_at ((hb.block _ (Array.getElem?_eq_some_iff.1 B7.out).1).trans B7.out) (i := 14) rfl); (have k81 := boxed_at ((hb.block _ (Array.getElem?_eq_some_iff.1 B8.out).1).trans B8.out) (i := 13) rfl); (have k82 := boxed_at ((hb.block _ (Array.getElem?_eq_some_iff.1 B8.out).1).trans B8.out) (i := 14) rfl); clear hb)
                | (go_at_call 34; (with_reducible refine (QD.out _).mono ?_); rintro en w5 ⟨rfl, rfl⟩)
                | (go_at_call 35; (with_reducible refine (QG.out _).mono ?_); rintro en w6 ⟨rfl, hb⟩; (have HL6 := hide (HL4.out.trans (hb.mono HL4.out.size))); clear hb))
              go_ret
              exact ⟨HF.out, HL6.out⟩
        · have dd : decide (di ≤ 4194304) = false := by simpa using hd
          have HD := hide hd
          have HLE := hide hl
          clear hd hl hw k1 k2 k3 k4 k5 k6
          have k7' := boxed_at B7.out (i := 4) rfl
          have k8' := boxed_at B8.out (i := 4) rfl
          have k71 := boxed_at B7.out (i := 13) rfl
          have k72 := boxed_at B7.out (i := 14) rfl
          have k81 := boxed_at B8.out (i := 13) rfl
          have k82 := boxed_at B8.out (i := 14) rfl
          by_cases ht : di < td
          · have dt : decide (di < td) = true := by simpa using ht
            have HT := hide (HT.out (.inr (.inr (.inl ht))))
            clear ht HF HTB k71 k72 k81 k82
            go_wp2_with (first
              | (go_at_call 34; (with_reducible refine (QD.out _).mono ?_); rintro en w5 ⟨rfl, rfl⟩))
            go_ret
            exact ⟨HT.out, HL.out⟩
          · have dt : decide (di < td) = false := by simpa using ht
            have HF := hide (HF.out (by rintro (h1 | h1 | h1); exact h1 HLE.out; exact HD.out h1.1; exact ht h1))
            clear ht HT HTB
            go_wp2_with (first
              | (go_at_call 34; (with_reducible refine (QD.out _).mono ?_); rintro en w5 ⟨rfl, rfl⟩)
              | (go_at_call 35; (with_reducible refine (QG.out _).mono ?_); rintro en w6 ⟨rfl, hb⟩; (have HL6 := hide (HL.out.trans (hb.mono HL.out.size))); clear hb))
            go_ret
            exact ⟨HF.out, HL6.out⟩
      · have dl : ((la : Int) != (lb : Int)) = true := by simp; omega
        rw [dl]
        have HT := hide (HT.out (.inl hl))
        clear dl hl HF HTB
        go_wp2_with fail
        go_ret
        exact ⟨HT.out, HL.out⟩
  · have hres : res = false := by rw [HM.out]; simp
    subst hres
    go_wp2_with (first
      | (go_at_call 13; (with_reducible refine (QV.out _ HR.out).mono ?_); rintro en w1 ⟨rfl, hb⟩; (have HL := hide (HB.out.trans (hb.mono HB.out.size))); clear hb))
    go_ret
    exact ⟨rfl, HL.out⟩

end Go.Proofs.Ytlhphhiodckaaaa
