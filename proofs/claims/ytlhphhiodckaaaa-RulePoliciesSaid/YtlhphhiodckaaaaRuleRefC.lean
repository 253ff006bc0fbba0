/- Moved of the reference. (written by gen_rrefc.py) -/
import Derived.Test.YtlhphhiodckaaaaRuleRefB
import Derived.Test.YtlhphhiodckaaaaMovedC
namespace Go.Proofs.Ytlhphhiodckaaaa
open Go.RowKit
set_option linter.unusedVariables false
set_option linter.unusedSimpArgs false

structure MorC (V : World) (g3 g4 g5 : Nat) (di : Int) (a b : Ev) (L : Nat → Bool) (u : Nat → Value) (x : World) : Prop where
  low : Below V.heap.size V x
  f0 : L 0 = true → u 12 = .pointer (some ⟨g4, 9, none⟩)
  f1 : L 1 = true → u 13 = .pointer (some ⟨g4, 10, none⟩)
  f2 : L 2 = true → u 14 = .agg #[.int .i64 a.x, .int .i64 a.y, .int .i64 a.z, .int .i64 a.tm, .int .i64 a.mf, .int .i64 a.lw, .int .i64 a.b1, .int .i64 a.b2, .int .i64 a.b3, .int .i64 a.b4, .int .i64 a.b5, .int .i64 a.b6]
  f3 : L 3 = true → u 15 = .pointer (some ⟨g5, 9, none⟩)
  f4 : L 4 = true → u 16 = .pointer (some ⟨g5, 10, none⟩)
  f5 : L 5 = true → u 17 = .agg #[.int .i64 b.x, .int .i64 b.y, .int .i64 b.z, .int .i64 b.tm, .int .i64 b.mf, .int .i64 b.lw, .int .i64 b.b1, .int .i64 b.b2, .int .i64 b.b3, .int .i64 b.b4, .int .i64 b.b5, .int .i64 b.b6]
  f6 : L 6 = true → ∃ k : Nat, u 7 = .pointer (some ⟨k, 0, none⟩) ∧ V.heap.size ≤ k ∧ (L 8 = false → x.heap[k]? = some (.cells #[.int .i64 0, .int .i64 0, .int .i64 0, .int .i64 0, .int .i64 0, .int .i64 0, .int .i64 0, .int .i64 0, .int .i64 0, .int .i64 0, .int .i64 0, .int .i64 0] 37 (0, 0))) ∧ (L 8 = true → x.heap[k]? = some (.cells #[.int .i64 a.x, .int .i64 a.y, .int .i64 a.z, .int .i64 a.tm, .int .i64 a.mf, .int .i64 a.lw, .int .i64 a.b1, .int .i64 a.b2, .int .i64 a.b3, .int .i64 a.b4, .int .i64 a.b5, .int .i64 a.b6] 37 (0, 0))) ∧ (L 7 = true → u 8 ≠ u 7)
  f7 : L 7 = true → ∃ k : Nat, u 8 = .pointer (some ⟨k, 0, none⟩) ∧ V.heap.size ≤ k ∧ (L 9 = false → x.heap[k]? = some (.cells #[.int .i64 0, .int .i64 0, .int .i64 0, .int .i64 0, .int .i64 0, .int .i64 0, .int .i64 0, .int .i64 0, .int .i64 0, .int .i64 0, .int .i64 0, .int .i64 0] 37 (0, 0))) ∧ (L 9 = true → x.heap[k]? = some (.cells #[.int .i64 b.x, .int .i64 b.y, .int .i64 b.z, .int .i64 b.tm, .int .i64 b.mf, .int .i64 b.lw, .int .i64 b.b1, .int .i64 b.b2, .int .i64 b.b3, .int .i64 b.b4, .int .i64 b.b5, .int .i64 b.b6] 37 (0, 0))) ∧ (L 6 = true → u 8 ≠ u 7)
set_option maxHeartbeats 8000000 in
set_option maxRecDepth 100000 in
theorem rr_moved (L : List Rl) (di ev : Int) (p : Option Addr) (n c : Nat) (hn : n ≤ 1000000) (a b : Ev) (ha : -1152921504606846976 ≤ a.tm ∧ a.tm ≤ 1152921504606846976) (hb : -1152921504606846976 ≤ b.tm ∧ b.tm ≤ 1152921504606846976) (w : World) (hr : RlRow w p n L) :
    Calls Try.prog 24 #[.agg #[.slice p n c, .int .i64 di, .int .i64 ev], .agg #[.string a.a1, .string a.a2, .string a.a3, .string a.a4, .int .i64 a.t1, .int .i64 a.t2, .int .i64 a.t3, .int .i64 a.am, .int .i64 a.po, .slice a.p a.n a.c, .int .i64 a.x, .int .i64 a.y, .int .i64 a.z, .int .i64 a.tm, .int .i64 a.mf, .int .i64 a.lw, .int .i64 a.b1, .int .i64 a.b2, .int .i64 a.b3, .int .i64 a.b4, .int .i64 a.b5, .int .i64 a.b6, .int .i64 a.lo, .int .i64 a.hi, .int .i64 a.ct], .agg #[.string b.a1, .string b.a2, .string b.a3, .string b.a4, .int .i64 b.t1, .int .i64 b.t2, .int .i64 b.t3, .int .i64 b.am, .int .i64 b.po, .slice b.p b.n b.c, .int .i64 b.x, .int .i64 b.y, .int .i64 b.z, .int .i64 b.tm, .int .i64 b.mf, .int .i64 b.lw, .int .i64 b.b1, .int .i64 b.b2, .int .i64 b.b3, .int .i64 b.b4, .int .i64 b.b5, .int .i64 b.b6, .int .i64 b.lo, .int .i64 b.hi, .int .i64 b.ct]] w fun en w' => en = .returned (.bool (movB L di ev a b)) ∧ Below w.heap.size w w' := by
  have HB := hide (below3a (w := w) (.cells #[.slice p n c, .int .i64 di, .int .i64 ev] 24) (.cells #[.string a.a1, .string a.a2, .string a.a3, .string a.a4, .int .i64 a.t1, .int .i64 a.t2, .int .i64 a.t3, .int .i64 a.am, .int .i64 a.po, .slice a.p a.n a.c, .int .i64 a.x, .int .i64 a.y, .int .i64 a.z, .int .i64 a.tm, .int .i64 a.mf, .int .i64 a.lw, .int .i64 a.b1, .int .i64 a.b2, .int .i64 a.b3, .int .i64 a.b4, .int .i64 a.b5, .int .i64 a.b6, .int .i64 a.lo, .int .i64 a.hi, .int .i64 a.ct] 43) (.cells #[.string b.a1, .string b.a2, .string b.a3, .string b.a4, .int .i64 b.t1, .int .i64 b.t2, .int .i64 b.t3, .int .i64 b.am, .int .i64 b.po, .slice b.p b.n b.c, .int .i64 b.x, .int .i64 b.y, .int .i64 b.z, .int .i64 b.tm, .int .i64 b.mf, .int .i64 b.lw, .int .i64 b.b1, .int .i64 b.b2, .int .i64 b.b3, .int .i64 b.b4, .int .i64 b.b5, .int .i64 b.b6, .int .i64 b.lo, .int .i64 b.hi, .int .i64 b.ct] 43))
  have G3 := hide (pair_alloc (pair_alloc (heap_alloc_new w (.cells #[.slice p n c, .int .i64 di, .int .i64 ev] 24)) (.cells #[.string a.a1, .string a.a2, .string a.a3, .string a.a4, .int .i64 a.t1, .int .i64 a.t2, .int .i64 a.t3, .int .i64 a.am, .int .i64 a.po, .slice a.p a.n a.c, .int .i64 a.x, .int .i64 a.y, .int .i64 a.z, .int .i64 a.tm, .int .i64 a.mf, .int .i64 a.lw, .int .i64 a.b1, .int .i64 a.b2, .int .i64 a.b3, .int .i64 a.b4, .int .i64 a.b5, .int .i64 a.b6, .int .i64 a.lo, .int .i64 a.hi, .int .i64 a.ct] 43)) (.cells #[.string b.a1, .string b.a2, .string b.a3, .string b.a4, .int .i64 b.t1, .int .i64 b.t2, .int .i64 b.t3, .int .i64 b.am, .int .i64 b.po, .slice b.p b.n b.c, .int .i64 b.x, .int .i64 b.y, .int .i64 b.z, .int .i64 b.tm, .int .i64 b.mf, .int .i64 b.lw, .int .i64 b.b1, .int .i64 b.b2, .int .i64 b.b3, .int .i64 b.b4, .int .i64 b.b5, .int .i64 b.b6, .int .i64 b.lo, .int .i64 b.hi, .int .i64 b.ct] 43))
  have G4 := hide (pair_alloc (new_at (w := w.alloc (.cells #[.slice p n c, .int .i64 di, .int .i64 ev] 24)) (.cells #[.string a.a1, .string a.a2, .string a.a3, .string a.a4, .int .i64 a.t1, .int .i64 a.t2, .int .i64 a.t3, .int .i64 a.am, .int .i64 a.po, .slice a.p a.n a.c, .int .i64 a.x, .int .i64 a.y, .int .i64 a.z, .int .i64 a.tm, .int .i64 a.mf, .int .i64 a.lw, .int .i64 a.b1, .int .i64 a.b2, .int .i64 a.b3, .int .i64 a.b4, .int .i64 a.b5, .int .i64 a.b6, .int .i64 a.lo, .int .i64 a.hi, .int .i64 a.ct] 43) (g := w.heap.size + 1) (by simp)) (.cells #[.string b.a1, .string b.a2, .string b.a3, .string b.a4, .int .i64 b.t1, .int .i64 b.t2, .int .i64 b.t3, .int .i64 b.am, .int .i64 b.po, .slice b.p b.n b.c, .int .i64 b.x, .int .i64 b.y, .int .i64 b.z, .int .i64 b.tm, .int .i64 b.mf, .int .i64 b.lw, .int .i64 b.b1, .int .i64 b.b2, .int .i64 b.b3, .int .i64 b.b4, .int .i64 b.b5, .int .i64 b.b6, .int .i64 b.lo, .int .i64 b.hi, .int .i64 b.ct] 43))
  have G5 := hide (new_at (w := (w.alloc (.cells #[.slice p n c, .int .i64 di, .int .i64 ev] 24)).alloc (.cells #[.string a.a1, .string a.a2, .string a.a3, .string a.a4, .int .i64 a.t1, .int .i64 a.t2, .int .i64 a.t3, .int .i64 a.am, .int .i64 a.po, .slice a.p a.n a.c, .int .i64 a.x, .int .i64 a.y, .int .i64 a.z, .int .i64 a.tm, .int .i64 a.mf, .int .i64 a.lw, .int .i64 a.b1, .int .i64 a.b2, .int .i64 a.b3, .int .i64 a.b4, .int .i64 a.b5, .int .i64 a.b6, .int .i64 a.lo, .int .i64 a.hi, .int .i64 a.ct] 43)) (.cells #[.string b.a1, .string b.a2, .string b.a3, .string b.a4, .int .i64 b.t1, .int .i64 b.t2, .int .i64 b.t3, .int .i64 b.am, .int .i64 b.po, .slice b.p b.n b.c, .int .i64 b.x, .int .i64 b.y, .int .i64 b.z, .int .i64 b.tm, .int .i64 b.mf, .int .i64 b.lw, .int .i64 b.b1, .int .i64 b.b2, .int .i64 b.b3, .int .i64 b.b4, .int .i64 b.b5, .int .i64 b.b6, .int .i64 b.lo, .int .i64 b.hi, .int .i64 b.ct] 43) (g := w.heap.size + 1 + 1) (by simp))
  have HR := hide (hr.keep HB.out)
  have QV := hide (fun (V : World) (hV : RlRow V p n L) => rr_validate L di ev p n c hn V hV)
  have QA := hide (fun (V : World) (hV : RlRow V p n L) => rr_level L di ev p n c hn a V hV)
  have QB := hide (fun (V : World) (hV : RlRow V p n L) => rr_level L di ev p n c hn b V hV)
  have QS := hide (fun V => rr_square a.x a.y a.z b.x b.y b.z V)
  have TW1 : IntKind.i64.wrap (a.tm - b.tm) = a.tm - b.tm := by rw [IntKind.wrap_i64]; omega
  have TW2 : IntKind.i64.wrap (b.tm - a.tm) = b.tm - a.tm := by rw [IntKind.wrap_i64]; omega
  have TW3 : wrap64 (a.tm - b.tm) = a.tm - b.tm := IntWalk.wrap64_in _ (by omega)
  have TW4 : wrap64 (b.tm - a.tm) = b.tm - a.tm := IntWalk.wrap64_in _ (by omega)
  obtain ⟨ha0, ha1⟩ := ha
  obtain ⟨hb0, hb1⟩ := hb
  have QG := hide (fun V => mref_agree a.lo a.hi b.lo b.hi V)
  have HM := hide (show movB L di ev a b = decide (vE L di ev = 0 ∧ (levF L di ev a ≠ levF L di ev b ∨ (di ≤ 4194304 ∧ di * di < sqV a.x a.y a.z b.x b.y b.z) ∨ di < max a.tm b.tm - min a.tm b.tm ∨ agreeB a.lo a.hi b.lo b.hi = false)) from rfl)
  have HVD := hide (show vE L di ev = 0 → 0 ≤ di ∧ di ≤ 9007199254740992 from fun h => by unfold vE at h; split at h; (rename_i hh; exact ⟨hh.2.1.1, hh.2.2.1.1⟩); cases h)
  have HV01 := hide (show vE L di ev = 0 ∨ vE L di ev = 27 from by unfold vE; split; exact .inl rfl; exact .inr rfl)
  have HTB := hide (show 0 ≤ max a.tm b.tm - min a.tm b.tm ∧ max a.tm b.tm - min a.tm b.tm ≤ 18446744073709551615 from by omega)
  generalize movB L di ev a b = res at HM ⊢
  generalize vE L di ev = vv at QV HM HVD HV01
  generalize levF L di ev a = la at QA HM
  generalize levF L di ev b = lb at QB HM
  generalize sqV a.x a.y a.z b.x b.y b.z = sq at QS HM
  generalize agreeB a.lo a.hi b.lo b.hi = ag at QG HM
  clear hr
  go_enter Try.func24, Try.ntmps24
  go_upto_region 1 with fail
  generalize ((w.alloc (.cells #[.slice p n c, .int .i64 di, .int .i64 ev] 24)).alloc (.cells #[.string a.a1, .string a.a2, .string a.a3, .string a.a4, .int .i64 a.t1, .int .i64 a.t2, .int .i64 a.t3, .int .i64 a.am, .int .i64 a.po, .slice a.p a.n a.c, .int .i64 a.x, .int .i64 a.y, .int .i64 a.z, .int .i64 a.tm, .int .i64 a.mf, .int .i64 a.lw, .int .i64 a.b1, .int .i64 a.b2, .int .i64 a.b3, .int .i64 a.b4, .int .i64 a.b5, .int .i64 a.b6, .int .i64 a.lo, .int .i64 a.hi, .int .i64 a.ct] 43)).alloc (.cells #[.string b.a1, .string b.a2, .string b.a3, .string b.a4, .int .i64 b.t1, .int .i64 b.t2, .int .i64 b.t3, .int .i64 b.am, .int .i64 b.po, .slice b.p b.n b.c, .int .i64 b.x, .int .i64 b.y, .int .i64 b.z, .int .i64 b.tm, .int .i64 b.mf, .int .i64 b.lw, .int .i64 b.b1, .int .i64 b.b2, .int .i64 b.b3, .int .i64 b.b4, .int .i64 b.b5, .int .i64 b.b6, .int .i64 b.lo, .int .i64 b.hi, .int .i64 b.ct] 43) = V at HB G3 G4 G5 HR ⊢
  obtain ⟨c0, c1, c2, -, -, -⟩ := tri_cells G3.out
  rcases HV01.out with rfl | rfl
  · have HDI := HVD.out rfl
    obtain ⟨di0, di1⟩ := HDI
    go_upto_region 3 with (first
      | (go_at_call 14; (with_reducible refine (QV.out _ HR.out).mono ?_); rintro en w1 ⟨rfl, hb⟩; (have G3 := hide ((hb.block _ (Array.getElem?_eq_some_iff.1 G3.out).1).trans G3.out)); (have G4 := hide ((hb.block _ (Array.getElem?_eq_some_iff.1 G4.out).1).trans G4.out)); (have G5 := hide ((hb.block _ (Array.getElem?_eq_some_iff.1 G5.out).1).trans G5.out)); (have HL := hide (HB.out.trans (hb.mono HB.out.size))); (have HR := hide (HR.out.keep hb)); clear hb))
    clear c0 c1 c2
    have HW1 := hide (show w.heap.size + 1 + 1 < w1.heap.size from (Array.getElem?_eq_some_iff.1 G5.out).1)
    go_cut [7, 8] from 7 to 17 (fun s7 s8 wx => ∃ k7 k8 : Nat, s7 = .pointer (some ⟨k7, 0, none⟩) ∧ s8 = .pointer (some ⟨k8, 0, none⟩) ∧ Hid (wx.heap[k7]? = some (.cells #[.int .i64 a.x, .int .i64 a.y, .int .i64 a.z, .int .i64 a.tm, .int .i64 a.mf, .int .i64 a.lw, .int .i64 a.b1, .int .i64 a.b2, .int .i64 a.b3, .int .i64 a.b4, .int .i64 a.b5, .int .i64 a.b6] 37 (0, 0))) ∧ Hid (wx.heap[k8]? = some (.cells #[.int .i64 b.x, .int .i64 b.y, .int .i64 b.z, .int .i64 b.tm, .int .i64 b.mf, .int .i64 b.lw, .int .i64 b.b1, .int .i64 b.b2, .int .i64 b.b3, .int .i64 b.b4, .int .i64 b.b5, .int .i64 b.b6] 37 (0, 0))) ∧ Hid (Below w1.heap.size w1 wx))
    case first =>
      have HPOL := True.intro
      clear HM HVD HV01 HTB QV QA QB QS QG HR HL HB HPOL
      obtain ⟨g3, eq3⟩ : ∃ g3, w.heap.size = g3 := ⟨_, rfl⟩
      rw [eq3] at G3 G4 G5 HW1 ⊢
      obtain ⟨g4, eq4⟩ : ∃ g4, g3 + 1 = g4 := ⟨_, rfl⟩
      rw [eq4] at G4 G5 HW1 ⊢
      obtain ⟨g5, eq5⟩ : ∃ g5, g4 + 1 = g5 := ⟨_, rfl⟩
      rw [eq5] at G5 HW1 ⊢
      have HW1 := HW1.out
      have hg3 : g3 < w1.heap.size := by omega
      have hg4 : g4 < w1.heap.size := by omega
      have hg5 : g5 < w1.heap.size := HW1
      clear HW1
      refine wp_region_inv2 (fun L a' w' => ∃ u : Nat → Value, a' = { tmps := #[.agg #[.slice p n c, .int .i64 di, .int .i64 ev], .agg #[.string a.a1, .string a.a2, .string a.a3, .string a.a4, .int .i64 a.t1, .int .i64 a.t2, .int .i64 a.t3, .int .i64 a.am, .int .i64 a.po, .slice a.p a.n a.c, .int .i64 a.x, .int .i64 a.y, .int .i64 a.z, .int .i64 a.tm, .int .i64 a.mf, .int .i64 a.lw, .int .i64 a.b1, .int .i64 a.b2, .int .i64 a.b3, .int .i64 a.b4, .int .i64 a.b5, .int .i64 a.b6, .int .i64 a.lo, .int .i64 a.hi, .int .i64 a.ct], .agg #[.string b.a1, .string b.a2, .string b.a3, .string b.a4, .int .i64 b.t1, .int .i64 b.t2, .int .i64 b.t3, .int .i64 b.am, .int .i64 b.po, .slice b.p b.n b.c, .int .i64 b.x, .int .i64 b.y, .int .i64 b.z, .int .i64 b.tm, .int .i64 b.mf, .int .i64 b.lw, .int .i64 b.b1, .int .i64 b.b2, .int .i64 b.b3, .int .i64 b.b4, .int .i64 b.b5, .int .i64 b.b6, .int .i64 b.lo, .int .i64 b.hi, .int .i64 b.ct], .pointer (some ⟨g3, 0, none⟩), .pointer (some ⟨g4, 0, none⟩), .pointer (some ⟨g5, 0, none⟩), .bool false, u 7, u 8, .agg #[.slice p n c, .int .i64 di, .int .i64 ev], .int .i64 0, .bool false, u 12, u 13, u 14, u 15, u 16, u 17, undef, undef, undef, undef, undef, undef, undef, undef, undef, undef, undef, undef, undef, undef, undef, undef, undef, undef, undef, undef, undef, undef, undef, undef, undef, undef, undef, undef, undef, undef, undef, undef, undef, undef, undef, undef, undef, undef, undef, undef, undef, undef, undef, undef, undef, undef, undef], defers := [] } ∧ MorC w1 g3 g4 g5 di a b L u w') (by kernel_rfl) (by kernel_rfl) ?h0 ?hs ?hd
      case h0 =>
        exact ⟨fun _ => undef, rfl, { low := (Below.refl _ _).drew, f0 := fun e => Bool.noConfusion e, f1 := fun e => Bool.noConfusion e, f2 := fun e => Bool.noConfusion e, f3 := fun e => Bool.noConfusion e, f4 := fun e => Bool.noConfusion e, f5 := fun e => Bool.noConfusion e, f6 := fun e => Bool.noConfusion e, f7 := fun e => Bool.noConfusion e }⟩
      case hs =>
        refine (Steps2.cons ?_ (Steps2.cons ?_ (Steps2.cons ?_ (Steps2.cons ?_ (Steps2.cons ?_ (Steps2.cons ?_ (Steps2.cons ?_ (Steps2.cons ?_ (Steps2.cons ?_ (Steps2.cons ?_ Steps2.nil))))))))))
        · intro L a' x hL hcl hc hI K' hK
          obtain ⟨u, rfl, hC⟩ := hI
          have HK := hide hK
          have HC := hide hC
          clear hK hC hc
          go_simp
          exact HK.out _ _ ⟨fun s => if s = 12 then .pointer (some ⟨g4, 9, none⟩) else u s, rfl, { HC.out with f0 := fun _ => rfl }⟩
        · intro L a' x hL hcl hc hI K' hK
          obtain ⟨u, rfl, hC⟩ := hI
          have d0 : L 0 = true := hc ⟨0, .data⟩ (by simp) rfl
          have HK := hide hK
          have HC := hide hC
          clear hK hC hc
          have e12 := HC.out.f0 d0
          go_simp
          exact HK.out _ _ ⟨fun s => if s = 13 then .pointer (some ⟨g4, 10, none⟩) else u s, by simp [e12], { HC.out with f1 := fun _ => rfl }⟩
        · intro L a' x hL hcl hc hI K' hK
          obtain ⟨u, rfl, hC⟩ := hI
          have d1 : L 1 = true := hc ⟨1, .data⟩ (by simp) rfl
          have HK := hide hK
          have HC := hide hC
          clear hK hC hc
          have e13 := HC.out.f1 d1
          refine wp_load_mid 37 (.tmp 13) rfl g4 10 (by simpa [Act.eval] using e13) [.int .i64 a.x, .int .i64 a.y, .int .i64 a.z, .int .i64 a.tm, .int .i64 a.mf, .int .i64 a.lw, .int .i64 a.b1, .int .i64 a.b2, .int .i64 a.b3, .int .i64 a.b4, .int .i64 a.b5, .int .i64 a.b6] _ (row_range ((HC.out.low.block g4 hg4).trans G4.out) (sub_get rfl)) Try.underlying37 rfl (by kernel_rfl) ?_
          exact HK.out _ _ ⟨fun s => if s = 14 then .agg #[.int .i64 a.x, .int .i64 a.y, .int .i64 a.z, .int .i64 a.tm, .int .i64 a.mf, .int .i64 a.lw, .int .i64 a.b1, .int .i64 a.b2, .int .i64 a.b3, .int .i64 a.b4, .int .i64 a.b5, .int .i64 a.b6] else u s, rfl, { HC.out with f2 := fun _ => rfl }⟩
        · intro L a' x hL hcl hc hI K' hK
          obtain ⟨u, rfl, hC⟩ := hI
          have HK := hide hK
          have HC := hide hC
          clear hK hC hc
          go_simp
          exact HK.out _ _ ⟨fun s => if s = 15 then .pointer (some ⟨g5, 9, none⟩) else u s, rfl, { HC.out with f3 := fun _ => rfl }⟩
        · intro L a' x hL hcl hc hI K' hK
          obtain ⟨u, rfl, hC⟩ := hI
          have d3 : L 3 = true := hc ⟨3, .data⟩ (by simp) rfl
          have HK := hide hK
          have HC := hide hC
          clear hK hC hc
          have e15 := HC.out.f3 d3
          go_simp
          exact HK.out _ _ ⟨fun s => if s = 16 then .pointer (some ⟨g5, 10, none⟩) else u s, by simp [e15], { HC.out with f4 := fun _ => rfl }⟩
        · intro L a' x hL hcl hc hI K' hK
          obtain ⟨u, rfl, hC⟩ := hI
          have d4 : L 4 = true := hc ⟨4, .data⟩ (by simp) rfl
          have HK := hide hK
          have HC := hide hC
          clear hK hC hc
          have e16 := HC.out.f4 d4
          refine wp_load_mid 37 (.tmp 16) rfl g5 10 (by simpa [Act.eval] using e16) [.int .i64 b.x, .int .i64 b.y, .int .i64 b.z, .int .i64 b.tm, .int .i64 b.mf, .int .i64 b.lw, .int .i64 b.b1, .int .i64 b.b2, .int .i64 b.b3, .int .i64 b.b4, .int .i64 b.b5, .int .i64 b.b6] _ (row_range ((HC.out.low.block g5 hg5).trans G5.out) (sub_get rfl)) Try.underlying37 rfl (by kernel_rfl) ?_
          exact HK.out _ _ ⟨fun s => if s = 17 then .agg #[.int .i64 b.x, .int .i64 b.y, .int .i64 b.z, .int .i64 b.tm, .int .i64 b.mf, .int .i64 b.lw, .int .i64 b.b1, .int .i64 b.b2, .int .i64 b.b3, .int .i64 b.b4, .int .i64 b.b5, .int .i64 b.b6] else u s, rfl, { HC.out with f5 := fun _ => rfl }⟩
        · intro L a' x hL hcl hc hI K' hK
          obtain ⟨u, rfl, hC⟩ := hI
          have n8 : L 8 = false := by cases h : L 8; rfl; exact absurd ((fun h => (hcl 8 _ rfl h ⟨6, .data⟩ (by simp) rfl)) h) (by rw [hL]; simp)
          have HK := hide hK
          have HC := hide hC
          clear hK hC hc
          have HLT := hide (show L 7 = true → ∀ k' : Nat, u 8 = .pointer (some ⟨k', 0, none⟩) → k' ≠ x.heap.size from fun h k' hk' => by obtain ⟨k2, h1, h2, h3, h4, -⟩ := HC.out.f7 h; rw [h1] at hk'; injection hk' with hk'; injection hk' with hk'; injection hk' with hk'; subst hk'; cases hs : L 9; exact Nat.ne_of_lt (Array.getElem?_eq_some_iff.1 (h3 hs)).1; exact Nat.ne_of_lt (Array.getElem?_eq_some_iff.1 (h4 hs)).1)
          go_simp
          exact HK.out _ _ ⟨fun s => if s = 7 then .pointer (some ⟨x.heap.size, 0, none⟩) else u s, rfl, { HC.out with f6 := fun _ => ⟨x.heap.size, rfl, HC.out.low.size, fun _ => heap_alloc_new _ _, fun h => absurd (show L 8 = true from h) (by rw [n8]; simp), fun h => (by obtain ⟨k', h1, h2, h3, h4, -⟩ := HC.out.f7 h; intro hh; change u 8 = Value.pointer (some ⟨x.heap.size, 0, none⟩) at hh; rw [h1] at hh; injection hh with hh; injection hh with hh; injection hh with hh; exact HLT.out h k' h1 hh)⟩, low := HC.out.low.alloc HC.out.low.size _, f7 := fun h => by obtain ⟨k', h1, h2, h3, h4, h5⟩ := HC.out.f7 h; exact ⟨k', h1, h2, fun e => pair_alloc (h3 e) _, fun e => pair_alloc (h4 e) _, fun _ hh => HLT.out h k' h1 (by change u 8 = Value.pointer (some ⟨x.heap.size, 0, none⟩) at hh; rw [h1] at hh; injection hh with hh; injection hh with hh; injection hh with hh; try exact hh)⟩ }⟩
        · intro L a' x hL hcl hc hI K' hK
          obtain ⟨u, rfl, hC⟩ := hI
          have n9 : L 9 = false := by cases h : L 9; rfl; exact absurd ((fun h => (hcl 9 _ rfl h ⟨7, .data⟩ (by simp) rfl)) h) (by rw [hL]; simp)
          have HK := hide hK
          have HC := hide hC
          clear hK hC hc
          have HLT := hide (show L 6 = true → ∀ k' : Nat, u 7 = .pointer (some ⟨k', 0, none⟩) → k' ≠ x.heap.size from fun h k' hk' => by obtain ⟨k2, h1, h2, h3, h4, -⟩ := HC.out.f6 h; rw [h1] at hk'; injection hk' with hk'; injection hk' with hk'; injection hk' with hk'; subst hk'; cases hs : L 8; exact Nat.ne_of_lt (Array.getElem?_eq_some_iff.1 (h3 hs)).1; exact Nat.ne_of_lt (Array.getElem?_eq_some_iff.1 (h4 hs)).1)
          go_simp
          exact HK.out _ _ ⟨fun s => if s = 8 then .pointer (some ⟨x.heap.size, 0, none⟩) else u s, rfl, { HC.out with f7 := fun _ => ⟨x.heap.size, rfl, HC.out.low.size, fun _ => heap_alloc_new _ _, fun h => absurd (show L 9 = true from h) (by rw [n9]; simp), fun h => (by obtain ⟨k', h1, h2, h3, h4, -⟩ := HC.out.f6 h; intro hh; change Value.pointer (some ⟨x.heap.size, 0, none⟩) = u 7 at hh; rw [h1] at hh; injection hh with hh; injection hh with hh; injection hh with hh; exact HLT.out h k' h1 hh.symm)⟩, low := HC.out.low.alloc HC.out.low.size _, f6 := fun h => by obtain ⟨k', h1, h2, h3, h4, h5⟩ := HC.out.f6 h; exact ⟨k', h1, h2, fun e => pair_alloc (h3 e) _, fun e => pair_alloc (h4 e) _, fun _ hh => HLT.out h k' h1 (by change Value.pointer (some ⟨x.heap.size, 0, none⟩) = u 7 at hh; rw [h1] at hh; injection hh with hh; injection hh with hh; injection hh with hh; try exact hh.symm)⟩ }⟩
        · intro L a' x hL hcl hc hI K' hK
          obtain ⟨u, rfl, hC⟩ := hI
          have d6 : L 6 = true := hc ⟨6, .data⟩ (by simp) rfl
          have d2 : L 2 = true := hc ⟨2, .data⟩ (by simp) rfl
          have HK := hide hK
          have HC := hide hC
          clear hK hC hc
          obtain ⟨k, e7, hk, hz, -, hne⟩ := HC.out.f6 d6
          have e14 := HC.out.f2 d2
          have HZ := hide (hz hL)
          refine wp_store_mid 37 (.tmp 7) (.tmp 14) rfl k 0 #[.int .i64 a.x, .int .i64 a.y, .int .i64 a.z, .int .i64 a.tm, .int .i64 a.mf, .int .i64 a.lw, .int .i64 a.b1, .int .i64 a.b2, .int .i64 a.b3, .int .i64 a.b4, .int .i64 a.b5, .int .i64 a.b6] (by simpa [Act.eval] using e7) (by simpa [Act.eval] using e14) (there_row HZ.out 0 12 (by simp)) (by kernel_rfl) (by simp [Value.oneCell']) ?_
          have HS := hide ((sets_heap [.int .i64 a.x, .int .i64 a.y, .int .i64 a.z, .int .i64 a.tm, .int .i64 a.mf, .int .i64 a.lw, .int .i64 a.b1, .int .i64 a.b2, .int .i64 a.b3, .int .i64 a.b4, .int .i64 a.b5, .int .i64 a.b6] x _ 0 HZ.out).trans (show _ = some (.cells #[.int .i64 a.x, .int .i64 a.y, .int .i64 a.z, .int .i64 a.tm, .int .i64 a.mf, .int .i64 a.lw, .int .i64 a.b1, .int .i64 a.b2, .int .i64 a.b3, .int .i64 a.b4, .int .i64 a.b5, .int .i64 a.b6] 37 (0, 0)) from by kernel_rfl))
          have HO := hide (fun k' (hk' : k' ≠ k) => sets_other hk' [.int .i64 a.x, .int .i64 a.y, .int .i64 a.z, .int .i64 a.tm, .int .i64 a.mf, .int .i64 a.lw, .int .i64 a.b1, .int .i64 a.b2, .int .i64 a.b3, .int .i64 a.b4, .int .i64 a.b5, .int .i64 a.b6] x 0)
          exact HK.out _ _ ⟨u, rfl, { HC.out with low := (HC.out.low.trans ((sets_below _ x 0).mono hk)), f6 := fun _ => ⟨k, e7, hk, fun h => Bool.noConfusion h, fun _ => HS.out, hne⟩, f7 := fun h => by obtain ⟨k', h1, h2, h3, h4, h5⟩ := HC.out.f7 h; have hkk : k' ≠ k := (by intro hh; subst hh; exact (hne h) (by rw [h1, e7])); exact ⟨k', h1, h2, fun e => (HO.out k' hkk).trans (h3 e), fun e => (HO.out k' hkk).trans (h4 e), h5⟩ }⟩
        · intro L a' x hL hcl hc hI K' hK
          obtain ⟨u, rfl, hC⟩ := hI
          have d7 : L 7 = true := hc ⟨7, .data⟩ (by simp) rfl
          have d5 : L 5 = true := hc ⟨5, .data⟩ (by simp) rfl
          have d8 : L 8 = true := hc ⟨8, .chain⟩ (by simp) rfl
          have HK := hide hK
          have HC := hide hC
          clear hK hC hc
          obtain ⟨k, e8, hk, hz, -, hne⟩ := HC.out.f7 d7
          have e17 := HC.out.f5 d5
          have HZ := hide (hz hL)
          refine wp_store_mid 37 (.tmp 8) (.tmp 17) rfl k 0 #[.int .i64 b.x, .int .i64 b.y, .int .i64 b.z, .int .i64 b.tm, .int .i64 b.mf, .int .i64 b.lw, .int .i64 b.b1, .int .i64 b.b2, .int .i64 b.b3, .int .i64 b.b4, .int .i64 b.b5, .int .i64 b.b6] (by simpa [Act.eval] using e8) (by simpa [Act.eval] using e17) (there_row HZ.out 0 12 (by simp)) (by kernel_rfl) (by simp [Value.oneCell']) ?_
          have HS := hide ((sets_heap [.int .i64 b.x, .int .i64 b.y, .int .i64 b.z, .int .i64 b.tm, .int .i64 b.mf, .int .i64 b.lw, .int .i64 b.b1, .int .i64 b.b2, .int .i64 b.b3, .int .i64 b.b4, .int .i64 b.b5, .int .i64 b.b6] x _ 0 HZ.out).trans (show _ = some (.cells #[.int .i64 b.x, .int .i64 b.y, .int .i64 b.z, .int .i64 b.tm, .int .i64 b.mf, .int .i64 b.lw, .int .i64 b.b1, .int .i64 b.b2, .int .i64 b.b3, .int .i64 b.b4, .int .i64 b.b5, .int .i64 b.b6] 37 (0, 0)) from by kernel_rfl))
          have HO := hide (fun k' (hk' : k' ≠ k) => sets_other hk' [.int .i64 b.x, .int .i64 b.y, .int .i64 b.z, .int .i64 b.tm, .int .i64 b.mf, .int .i64 b.lw, .int .i64 b.b1, .int .i64 b.b2, .int .i64 b.b3, .int .i64 b.b4, .int .i64 b.b5, .int .i64 b.b6] x 0)
          exact HK.out _ _ ⟨u, rfl, { HC.out with low := (HC.out.low.trans ((sets_below _ x 0).mono hk)), f7 := fun _ => ⟨k, e8, hk, fun h => Bool.noConfusion h, fun _ => HS.out, hne⟩, f6 := fun h => by obtain ⟨k', h1, h2, h3, h4, h5⟩ := HC.out.f6 h; have hkk : k' ≠ k := (by intro hh; subst hh; exact (hne h) (by rw [h1, e8])); exact ⟨k', h1, h2, fun e => (HO.out k' hkk).trans (h3 e), fun e => (HO.out k' hkk).trans (h4 e), h5⟩ }⟩
      case hd =>
        rintro L a' x hall ⟨u, rfl, hC⟩
        obtain ⟨k7, e7, h7, -, b7, -⟩ := hC.f6 (hall 6 (by decide))
        obtain ⟨k8, e8, h8, -, b8, -⟩ := hC.f7 (hall 7 (by decide))
        have B7 := hide (b7 (hall 8 (by decide)))
        have B8 := hide (b8 (hall 9 (by decide)))
        have LOW := hide hC.low
        clear hC hall b7 b8
        rw [e7, e8]
        subst eq5
        subst eq4
        subst eq3
        go_wp2_with fail
        go_meet
        exact ⟨k7, k8, rfl, rfl, B7, B8, LOW⟩
    case rest =>
      obtain ⟨k7, k8, rfl, rfl, B7, B8, LOW⟩ := hcut
      have G3 := hide ((LOW.out.block _ (by have := HW1.out; omega)).trans G3.out)
      have G4 := hide ((LOW.out.block _ (by have := HW1.out; omega)).trans G4.out)
      have G5 := hide ((LOW.out.block _ HW1.out).trans G5.out)
      have HR := hide (HR.out.keep LOW.out)
      have HL := hide (HL.out.trans (LOW.out.mono HL.out.size))
      clear LOW HW1
      generalize wc = w2 at B7 B8 G3 G4 G5 HR HL ⊢
      go_upto_region 4 with fail
      have M4 := hide (fun W (h : ∃ p, W = more w2 p) => show W.heap[w.heap.size + 1]? = _ from by obtain ⟨q, rfl⟩ := h; exact heap_more G4.out q)
      have M5 := hide (fun W (h : ∃ p, W = more w2 p) => show W.heap[w.heap.size + 1 + 1]? = _ from by obtain ⟨q, rfl⟩ := h; exact heap_more G5.out q)
      have HRM := hide (fun q => HR.out.keep (below_more w2 q))
      have p0 := fun q : More => cell_more (tri_cells G3.out).1 q
      have p1 := fun q : More => cell_more (tri_cells G3.out).2.1 q
      have p2 := fun q : More => cell_more (tri_cells G3.out).2.2.1 q
      have HE := hide (fun (q : Prop) (_ : Decidable q) (h0 : la = lb) (h1 : ¬ (di ≤ 4194304 ∧ di * di < sq)) (h2 : ag = true) (h : di < max a.tm b.tm - min a.tm b.tm ↔ q) => (show Ending.returned (.bool (decide q)) = .returned (.bool res) from by
        rw [HM.out]
        exact congrArg (fun z => Ending.returned (.bool z)) (decide_eq_decide.2 ⟨fun hq => ⟨by trivial, .inr (.inr (.inl (h.2 hq)))⟩, fun ⟨_, h'⟩ => by rcases h' with h3 | h3 | h3 | h3; exact absurd h0 h3; exact absurd h3 h1; exact h.1 h3; rw [h2] at h3; cases h3⟩)))
      have HT := hide (fun (h : la ≠ lb ∨ (di ≤ 4194304 ∧ di * di < sq) ∨ di < max a.tm b.tm - min a.tm b.tm ∨ ag = false) => (show Ending.returned (.bool true) = .returned (.bool res) from by rw [HM.out, decide_eq_true ⟨by trivial, h⟩]))
      clear HM HVD HV01 HTB QV
      by_cases hl : la = lb
      · have dl : ((la : Int) != (lb : Int)) = false := by simp [hl]
        have ka := fun q : More => cell_more (boxed_at G4.out (i := 22) rfl) q
        have ka2 := fun q : More => cell_more (boxed_at G4.out (i := 23) rfl) q
        have kb := fun q : More => cell_more (boxed_at G5.out (i := 22) rfl) q
        have kb2 := fun q : More => cell_more (boxed_at G5.out (i := 23) rfl) q
        have HLE := hide hl
        clear hl
        cases ag
        · have HT2 := hide (HT.out (.inr (.inr (.inr (by first | rfl | trivial)))))
          clear HT
          clear HE
          refine wp_region_grown (by kernel_rfl) (by kernel_rfl) ?_
          repeat (first
            | (refine wpQuiet_load_row ?_ 43 (.tmp 4) (by rfl) (w.heap.size + 1) (by rfl) 43 #[.string a.a1, .string a.a2, .string a.a3, .string a.a4, .int .i64 a.t1, .int .i64 a.t2, .int .i64 a.t3, .int .i64 a.am, .int .i64 a.po, .slice a.p a.n a.c, .int .i64 a.x, .int .i64 a.y, .int .i64 a.z, .int .i64 a.tm, .int .i64 a.mf, .int .i64 a.lw, .int .i64 a.b1, .int .i64 a.b2, .int .i64 a.b3, .int .i64 a.b4, .int .i64 a.b5, .int .i64 a.b6, .int .i64 a.lo, .int .i64 a.hi, .int .i64 a.ct] (0, 0) _ ?_ Try.underlying43 rfl (by kernel_rfl) ?_; (focus rfl); (focus exact M4.out); simp only [Act.put, List.setIfInBounds_toArray, List.set_cons_succ, List.set_cons_zero])
            | (refine wpQuiet_load_row ?_ 43 (.tmp 5) (by rfl) (w.heap.size + 1 + 1) (by rfl) 43 #[.string b.a1, .string b.a2, .string b.a3, .string b.a4, .int .i64 b.t1, .int .i64 b.t2, .int .i64 b.t3, .int .i64 b.am, .int .i64 b.po, .slice b.p b.n b.c, .int .i64 b.x, .int .i64 b.y, .int .i64 b.z, .int .i64 b.tm, .int .i64 b.mf, .int .i64 b.lw, .int .i64 b.b1, .int .i64 b.b2, .int .i64 b.b3, .int .i64 b.b4, .int .i64 b.b5, .int .i64 b.b6, .int .i64 b.lo, .int .i64 b.hi, .int .i64 b.ct] (0, 0) _ ?_ Try.underlying43 rfl (by kernel_rfl) ?_; (focus rfl); (focus exact M5.out); simp only [Act.put, List.setIfInBounds_toArray, List.set_cons_succ, List.set_cons_zero])
            | go_big_quiet_step ((first
                | (go_at_call 16; with_reducible exact more_of (QA.out _ (HRM.out _)))
                | (go_at_call 16; with_reducible exact more_of (QB.out _ (HRM.out _)))
                | (go_at_call 36; with_reducible exact more_of (QG.out _)))))
          refine wpQuiet_nil ?_
          intro w3 hb3
          go_wp2_with fail
          go_ret
          exact ⟨HT2.out, HL.out.trans (hb3.mono HL.out.size)⟩
        · refine wp_region_grown (by kernel_rfl) (by kernel_rfl) ?_
          repeat (first
            | (refine wpQuiet_load_row ?_ 43 (.tmp 4) (by rfl) (w.heap.size + 1) (by rfl) 43 #[.string a.a1, .string a.a2, .string a.a3, .string a.a4, .int .i64 a.t1, .int .i64 a.t2, .int .i64 a.t3, .int .i64 a.am, .int .i64 a.po, .slice a.p a.n a.c, .int .i64 a.x, .int .i64 a.y, .int .i64 a.z, .int .i64 a.tm, .int .i64 a.mf, .int .i64 a.lw, .int .i64 a.b1, .int .i64 a.b2, .int .i64 a.b3, .int .i64 a.b4, .int .i64 a.b5, .int .i64 a.b6, .int .i64 a.lo, .int .i64 a.hi, .int .i64 a.ct] (0, 0) _ ?_ Try.underlying43 rfl (by kernel_rfl) ?_; (focus rfl); (focus exact M4.out); simp only [Act.put, List.setIfInBounds_toArray, List.set_cons_succ, List.set_cons_zero])
            | (refine wpQuiet_load_row ?_ 43 (.tmp 5) (by rfl) (w.heap.size + 1 + 1) (by rfl) 43 #[.string b.a1, .string b.a2, .string b.a3, .string b.a4, .int .i64 b.t1, .int .i64 b.t2, .int .i64 b.t3, .int .i64 b.am, .int .i64 b.po, .slice b.p b.n b.c, .int .i64 b.x, .int .i64 b.y, .int .i64 b.z, .int .i64 b.tm, .int .i64 b.mf, .int .i64 b.lw, .int .i64 b.b1, .int .i64 b.b2, .int .i64 b.b3, .int .i64 b.b4, .int .i64 b.b5, .int .i64 b.b6, .int .i64 b.lo, .int .i64 b.hi, .int .i64 b.ct] (0, 0) _ ?_ Try.underlying43 rfl (by kernel_rfl) ?_; (focus rfl); (focus exact M5.out); simp only [Act.put, List.setIfInBounds_toArray, List.set_cons_succ, List.set_cons_zero])
            | go_big_quiet_step ((first
                | (go_at_call 16; with_reducible exact more_of (QA.out _ (HRM.out _)))
                | (go_at_call 16; with_reducible exact more_of (QB.out _ (HRM.out _)))
                | (go_at_call 36; with_reducible exact more_of (QG.out _)))))
          refine wpQuiet_nil ?_
          intro w3 hb3
          have B7 := hide ((hb3.block _ (Array.getElem?_eq_some_iff.1 B7.out).1).trans B7.out)
          have B8 := hide ((hb3.block _ (Array.getElem?_eq_some_iff.1 B8.out).1).trans B8.out)
          have G3 := hide ((hb3.block _ (Array.getElem?_eq_some_iff.1 G3.out).1).trans G3.out)
          have HL := hide (HL.out.trans (hb3.mono HL.out.size))
          clear hb3 p0 p1 p2 ka ka2 kb kb2 M4 M5 HRM QA QB QG dl
          go_upto_region 6 with fail
          have p1 := fun q : More => cell_more (tri_cells G3.out).2.1 q
          have hw : di ≤ 4194304 → IntKind.i64.wrap (di * di) = di * di := fun h => by have := sq_bd' di di0 h; rw [IntKind.wrap_i64]; omega
          go_cut [50] from 35 to 50 (fun s50 wx => s50 = .bool (decide (di ≤ 4194304 ∧ di * di < sq)) ∧ Hid (Below w3.heap.size w3 wx))
          case first =>
            have k1 := fun q : More => cell_more (boxed_at B7.out (i := 0) rfl) q
            have k2 := fun q : More => cell_more (boxed_at B7.out (i := 1) rfl) q
            have k3 := fun q : More => cell_more (boxed_at B7.out (i := 2) rfl) q
            have k4 := fun q : More => cell_more (boxed_at B8.out (i := 0) rfl) q
            have k5 := fun q : More => cell_more (boxed_at B8.out (i := 1) rfl) q
            have k6 := fun q : More => cell_more (boxed_at B8.out (i := 2) rfl) q
            by_cases hd : di ≤ 4194304
            · have dd : decide (di ≤ 4194304) = true := decide_eq_true hd
              have hw := hw hd
              have HEQ := hide (show Value.bool (decide (di * di < sq)) = .bool (decide (di ≤ 4194304 ∧ di * di < sq)) from congrArg Value.bool (decide_eq_decide.2 ⟨fun h => ⟨hd, h⟩, fun h => h.2⟩))
              clear hd
              refine wp_region_grown (by kernel_rfl) (by kernel_rfl) ?_
              repeat (go_big_quiet_step ((go_at_call 37; with_reducible exact more_of (QS.out _))))
              refine wpQuiet_nil ?_
              intro w4 hb4
              go_wp2_with fail
              go_meet
              exact ⟨HEQ.out, hide hb4⟩
            · have dd : decide (di ≤ 4194304) = false := decide_eq_false hd
              have HEQ := hide (show Value.bool false = .bool (decide (di ≤ 4194304 ∧ di * di < sq)) from congrArg Value.bool (decide_eq_false (fun h => hd h.1)).symm)
              clear hd hw
              refine wp_region_grown (by kernel_rfl) (by kernel_rfl) ?_
              repeat (go_big_quiet_step (fail))
              refine wpQuiet_nil ?_
              intro w4 hb4
              go_wp2_with fail
              go_meet
              exact ⟨HEQ.out, hide hb4⟩
          case rest =>
            obtain ⟨rfl, HB4⟩ := hcut
            have HL := hide (HL.out.trans (HB4.out.mono HL.out.size))
            have t7 := boxed_at ((HB4.out.block _ (Array.getElem?_eq_some_iff.1 B7.out).1).trans B7.out) (i := 3) rfl
            have t8 := boxed_at ((HB4.out.block _ (Array.getElem?_eq_some_iff.1 B8.out).1).trans B8.out) (i := 3) rfl
            have p1 := (tri_cells ((HB4.out.block _ (Array.getElem?_eq_some_iff.1 G3.out).1).trans G3.out)).2.1
            clear HB4 hw
            by_cases hs : di ≤ 4194304 ∧ di * di < sq
            · rw [decide_eq_true hs]
              have HT := hide (HT.out (.inr (.inl hs)))
              clear hs HE t7 t8 p1
              go_wp2_with fail
              go_ret
              exact ⟨HT.out, HL.out⟩
            · rw [decide_eq_false hs]
              have HE2 := hide (fun (q : Prop) (iq : Decidable q) h => HE.out q iq HLE.out hs (by first | rfl | trivial) h)
              clear hs HT HE
              go_wp2_with fail
              all_goals
                go_ret
                first
                  | exact ⟨HE2.out (di < a.tm - b.tm) _ (by omega), HL.out⟩
                  | exact ⟨HE2.out (di < b.tm - a.tm) _ (by omega), HL.out⟩
      · have dl : ((la : Int) != (lb : Int)) = true := by simp; omega
        have HT := hide (HT.out (.inl hl))
        clear hl HE
        refine wp_region_grown (by kernel_rfl) (by kernel_rfl) ?_
        iterate 8 (first
          | (refine wpQuiet_load_row ?_ 43 (.tmp 4) (by rfl) (w.heap.size + 1) (by rfl) 43 #[.string a.a1, .string a.a2, .string a.a3, .string a.a4, .int .i64 a.t1, .int .i64 a.t2, .int .i64 a.t3, .int .i64 a.am, .int .i64 a.po, .slice a.p a.n a.c, .int .i64 a.x, .int .i64 a.y, .int .i64 a.z, .int .i64 a.tm, .int .i64 a.mf, .int .i64 a.lw, .int .i64 a.b1, .int .i64 a.b2, .int .i64 a.b3, .int .i64 a.b4, .int .i64 a.b5, .int .i64 a.b6, .int .i64 a.lo, .int .i64 a.hi, .int .i64 a.ct] (0, 0) _ ?_ Try.underlying43 rfl (by kernel_rfl) ?_; (focus rfl); (focus exact M4.out); simp only [Act.put, List.setIfInBounds_toArray, List.set_cons_succ, List.set_cons_zero])
          | (refine wpQuiet_load_row ?_ 43 (.tmp 5) (by rfl) (w.heap.size + 1 + 1) (by rfl) 43 #[.string b.a1, .string b.a2, .string b.a3, .string b.a4, .int .i64 b.t1, .int .i64 b.t2, .int .i64 b.t3, .int .i64 b.am, .int .i64 b.po, .slice b.p b.n b.c, .int .i64 b.x, .int .i64 b.y, .int .i64 b.z, .int .i64 b.tm, .int .i64 b.mf, .int .i64 b.lw, .int .i64 b.b1, .int .i64 b.b2, .int .i64 b.b3, .int .i64 b.b4, .int .i64 b.b5, .int .i64 b.b6, .int .i64 b.lo, .int .i64 b.hi, .int .i64 b.ct] (0, 0) _ ?_ Try.underlying43 rfl (by kernel_rfl) ?_; (focus rfl); (focus exact M5.out); simp only [Act.put, List.setIfInBounds_toArray, List.set_cons_succ, List.set_cons_zero])
          | go_big_quiet_step ((first
              | (go_at_call 16; with_reducible exact more_of (QA.out _ (HRM.out _)))
              | (go_at_call 16; with_reducible exact more_of (QB.out _ (HRM.out _)))
              | (go_at_call 36; with_reducible exact more_of (QG.out _)))))
        repeat (go_big_quiet_step (fail))
        refine wpQuiet_nil ?_
        intro w3 hb3
        go_wp2_with fail
        go_ret
        exact ⟨HT.out, HL.out.trans (hb3.mono HL.out.size)⟩
  · have hres : res = false := by rw [HM.out]; simp
    subst hres
    go_wp2_with (first
      | (go_at_call 14; (with_reducible refine (QV.out _ HR.out).mono ?_); rintro en w1 ⟨rfl, hb⟩; (have HL := hide (HB.out.trans (hb.mono HB.out.size))); clear hb))
    go_ret
    exact ⟨rfl, HL.out⟩

end Go.Proofs.Ytlhphhiodckaaaa
