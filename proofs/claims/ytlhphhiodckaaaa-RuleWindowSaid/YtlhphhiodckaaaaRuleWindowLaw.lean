/- RuleWindow: an event with a level is timely exactly from its origin on until the end of the window of its rule. (written by gen_rulelaws.py) -/
import Derived.Test.YtlhphhiodckaaaaRuleSane
namespace Go.Proofs.Ytlhphhiodckaaaa
open Go.RowKit
set_option linter.unusedVariables false
set_option linter.unusedSimpArgs false

theorem tim_at (L : List Rl) (di ev : Int) (e : Ev) (d : Int) (h : -1000 ≤ d ∧ d ≤ 199000) (ht : 961 ≤ e.tm ∧ e.tm ≤ 1299) : timB L di ev e (e.tm + d) = decide (levF L di ev e ≠ 0 ∧ 0 ≤ d ∧ d ≤ (L[levF L di ev e - 1]?.getD rl0).d) := by
  unfold timB
  have hw : wrap64 (e.tm + d - e.tm) = d := by rw [show e.tm + d - e.tm = d by omega]; exact IntWalk.wrap64_in _ (by omega)
  rw [hw]
set_option maxHeartbeats 8000000 in
set_option maxRecDepth 100000 in
theorem rule_window (a : Option Addr) (len cap : Nat) (d : Int) (W : World) (hcap : len ≤ cap ∧ cap ≤ 9223372036854775807) (hr : IntRow W a len) (hd : -9223372036854775808 ≤ d ∧ d ≤ 9223372036854775807) :
    Calls Try.prog 6 #[.slice a len cap, .int .i64 d] W fun e w' => e = .returned (.bool true) ∧ Below W.heap.size W w' := by
  obtain ⟨m, hm, QN⟩ := keep_new a len cap hcap W hr
  have QN := hide QN
  clear hcap hr
  go_enter Try.func6, Try.ntmps6
  go_upto_region 3 with (first
    | (go_at_call 9; (with_reducible refine (QN.out).mono ?_); rintro en w1 ⟨rfl, hd⟩; (have HD := hide hd); (have hg1 := hd.lt); clear hd)
    | (go_at_call 10; (with_reducible refine (keep_policy _ HD.out).mono ?_); rintro en w2 ⟨⟨L, di, ev, p, c, rfl, hL1, hL3, hOK, ⟨di0, di1⟩, ⟨ev0, ev1⟩, hrow, hc1, hc2, hpb⟩, hd, hr1⟩; (have HD := hide hd); (have HOK := hide hOK); (have HROW := hide hrow); (have HPB := hide (fun b off (hp : p = some ⟨b, off, none⟩) => (show b ≠ W.heap.size from (by have := hpb b off hp; omega)))); (have hg2 := hd.lt); clear hd hr1 hOK hrow hpb)
    | (go_at_call 11; (with_reducible refine (keep_event 1 ⟨by omega, by omega⟩ _ HD.out).mono ?_); rintro en w3 ⟨⟨e, Ae, rfl, hA1e, hA4e, hfre, hoke, howne⟩, hd, hr1⟩; (have HROW := hide (HROW.out.heap fun b off hp hl => .inr (hr1.block b hl (HPB.out b off hp)))); (have HD := hide hd); (have HOWe := hide howne); (have HFRe := hide hfre); (have HOKe := hide hoke); clear hd hr1 hfre hoke howne; (have GE := hide (new_at (w := w3.alloc (.cells #[.slice p L.length c, .int .i64 di, .int .i64 ev] 24)) (.cells #[.string ⟨#[]⟩, .string ⟨#[]⟩, .string ⟨#[]⟩, .string ⟨#[]⟩, .int .i64 0, .int .i64 0, .int .i64 0, .int .i64 0, .int .i64 0, .slice none 0 0, .int .i64 0, .int .i64 0, .int .i64 0, .int .i64 0, .int .i64 0, .int .i64 0, .int .i64 0, .int .i64 0, .int .i64 0, .int .i64 0, .int .i64 0, .int .i64 0, .int .i64 0, .int .i64 0, .int .i64 0] 43) (g := w3.heap.size + 1) (by simp))))
    | (refine wpList_store_mid (by rfl) 43 (.tmp 7) (.tmp 15) (by rfl) (w3.heap.size + 1) 0 #[.string e.a1, .string e.a2, .string e.a3, .string e.a4, .int .i64 e.t1, .int .i64 e.t2, .int .i64 e.t3, .int .i64 e.am, .int .i64 e.po, .slice e.p e.n e.c, .int .i64 e.x, .int .i64 e.y, .int .i64 e.z, .int .i64 e.tm, .int .i64 e.mf, .int .i64 e.lw, .int .i64 e.b1, .int .i64 e.b2, .int .i64 e.b3, .int .i64 e.b4, .int .i64 e.b5, .int .i64 e.b6, .int .i64 e.lo, .int .i64 e.hi, .int .i64 e.ct] (by rfl) (by rfl) (there_row GE.out 0 25 (by simp)) (by kernel_rfl) (by simp [Value.oneCell']) ?_))
  simp only [Act.put]
  have HV := hide (((below2 (w := w3) (.cells #[.slice p L.length c, .int .i64 di, .int .i64 ev] 24) (.cells #[.string ⟨#[]⟩, .string ⟨#[]⟩, .string ⟨#[]⟩, .string ⟨#[]⟩, .int .i64 0, .int .i64 0, .int .i64 0, .int .i64 0, .int .i64 0, .slice none 0 0, .int .i64 0, .int .i64 0, .int .i64 0, .int .i64 0, .int .i64 0, .int .i64 0, .int .i64 0, .int .i64 0, .int .i64 0, .int .i64 0, .int .i64 0, .int .i64 0, .int .i64 0, .int .i64 0, .int .i64 0] 43)).trans ((sets_below (g := w3.heap.size + 1) [.string e.a1, .string e.a2, .string e.a3, .string e.a4, .int .i64 e.t1, .int .i64 e.t2, .int .i64 e.t3, .int .i64 e.am, .int .i64 e.po, .slice e.p e.n e.c, .int .i64 e.x, .int .i64 e.y, .int .i64 e.z, .int .i64 e.tm, .int .i64 e.mf, .int .i64 e.lw, .int .i64 e.b1, .int .i64 e.b2, .int .i64 e.b3, .int .i64 e.b4, .int .i64 e.b5, .int .i64 e.b6, .int .i64 e.lo, .int .i64 e.hi, .int .i64 e.ct] _ 0).mono (Nat.le_succ _))))
  have GP := hide ((sets_other (show w3.heap.size ≠ w3.heap.size + 1 by omega) [.string e.a1, .string e.a2, .string e.a3, .string e.a4, .int .i64 e.t1, .int .i64 e.t2, .int .i64 e.t3, .int .i64 e.am, .int .i64 e.po, .slice e.p e.n e.c, .int .i64 e.x, .int .i64 e.y, .int .i64 e.z, .int .i64 e.tm, .int .i64 e.mf, .int .i64 e.lw, .int .i64 e.b1, .int .i64 e.b2, .int .i64 e.b3, .int .i64 e.b4, .int .i64 e.b5, .int .i64 e.b6, .int .i64 e.lo, .int .i64 e.hi, .int .i64 e.ct] _ 0).trans (pair_alloc (heap_alloc_new w3 (.cells #[.slice p L.length c, .int .i64 di, .int .i64 ev] 24)) (.cells #[.string ⟨#[]⟩, .string ⟨#[]⟩, .string ⟨#[]⟩, .string ⟨#[]⟩, .int .i64 0, .int .i64 0, .int .i64 0, .int .i64 0, .int .i64 0, .slice none 0 0, .int .i64 0, .int .i64 0, .int .i64 0, .int .i64 0, .int .i64 0, .int .i64 0, .int .i64 0, .int .i64 0, .int .i64 0, .int .i64 0, .int .i64 0, .int .i64 0, .int .i64 0, .int .i64 0, .int .i64 0] 43)))
  have GE := hide ((sets_heap [.string e.a1, .string e.a2, .string e.a3, .string e.a4, .int .i64 e.t1, .int .i64 e.t2, .int .i64 e.t3, .int .i64 e.am, .int .i64 e.po, .slice e.p e.n e.c, .int .i64 e.x, .int .i64 e.y, .int .i64 e.z, .int .i64 e.tm, .int .i64 e.mf, .int .i64 e.lw, .int .i64 e.b1, .int .i64 e.b2, .int .i64 e.b3, .int .i64 e.b4, .int .i64 e.b5, .int .i64 e.b6, .int .i64 e.lo, .int .i64 e.hi, .int .i64 e.ct] _ _ 0 GE.out).trans (show _ = some (.cells #[.string e.a1, .string e.a2, .string e.a3, .string e.a4, .int .i64 e.t1, .int .i64 e.t2, .int .i64 e.t3, .int .i64 e.am, .int .i64 e.po, .slice e.p e.n e.c, .int .i64 e.x, .int .i64 e.y, .int .i64 e.z, .int .i64 e.tm, .int .i64 e.mf, .int .i64 e.lw, .int .i64 e.b1, .int .i64 e.b2, .int .i64 e.b3, .int .i64 e.b4, .int .i64 e.b5, .int .i64 e.b6, .int .i64 e.lo, .int .i64 e.hi, .int .i64 e.ct] 43 (0, 0)) from by kernel_rfl))
  have HROW := hide (HROW.out.keep HV.out)
  have HL := hide (HD.out.low.trans (HV.out.mono HD.out.low.size))
  clear HV HD HPB HOWe
  generalize ((w3.alloc (.cells #[.slice p L.length c, .int .i64 di, .int .i64 ev] 24)).alloc (.cells #[.string ⟨#[]⟩, .string ⟨#[]⟩, .string ⟨#[]⟩, .string ⟨#[]⟩, .int .i64 0, .int .i64 0, .int .i64 0, .int .i64 0, .int .i64 0, .slice none 0 0, .int .i64 0, .int .i64 0, .int .i64 0, .int .i64 0, .int .i64 0, .int .i64 0, .int .i64 0, .int .i64 0, .int .i64 0, .int .i64 0, .int .i64 0, .int .i64 0, .int .i64 0, .int .i64 0, .int .i64 0] 43)).setCells (w3.heap.size + 1) 0 [.string e.a1, .string e.a2, .string e.a3, .string e.a4, .int .i64 e.t1, .int .i64 e.t2, .int .i64 e.t3, .int .i64 e.am, .int .i64 e.po, .slice e.p e.n e.c, .int .i64 e.x, .int .i64 e.y, .int .i64 e.z, .int .i64 e.tm, .int .i64 e.mf, .int .i64 e.lw, .int .i64 e.b1, .int .i64 e.b2, .int .i64 e.b3, .int .i64 e.b4, .int .i64 e.b5, .int .i64 e.b6, .int .i64 e.lo, .int .i64 e.hi, .int .i64 e.ct] = V at GP GE HROW HL ⊢
  generalize w3.heap.size = q1 at GP GE ⊢
  obtain ⟨c0, c1, c2, -, -, -⟩ := tri_cells GP.out
  obtain ⟨y, hy⟩ : ∃ y, d % 200001 = y := ⟨_, rfl⟩
  have hy0 : 0 ≤ y ∧ y ≤ 200000 := by omega
  have QMO := hide (fun V => keep_mod d 200001 (by omega) V)
  rw [hy] at QMO
  clear hy hd
  obtain ⟨hy0, hy1⟩ := hy0
  have QL := hide (fun V hV => rule_level L di ev p L.length c (by omega) e V hV)
  have QT := hide (fun dd (hdd : -1000 ≤ dd ∧ dd ≤ 199000) V hV => (tim_at L di ev e dd hdd HOKe.out.tm) ▸ rule_timely L di ev p L.length c (by omega) e (e.tm + dd) V hV)
  have hle := levF_le L di ev e
  have htm := HOKe.out.tm
  obtain ⟨htm0, htm1⟩ := htm
  generalize levF L di ev e = lv at QL QT hle
  go_upto_region 5 with (first
    | (refine wpList_load_row (by rfl) 43 (.tmp 7) (by rfl) (q1 + 1) (by rfl) 43 #[.string e.a1, .string e.a2, .string e.a3, .string e.a4, .int .i64 e.t1, .int .i64 e.t2, .int .i64 e.t3, .int .i64 e.am, .int .i64 e.po, .slice e.p e.n e.c, .int .i64 e.x, .int .i64 e.y, .int .i64 e.z, .int .i64 e.tm, .int .i64 e.mf, .int .i64 e.lw, .int .i64 e.b1, .int .i64 e.b2, .int .i64 e.b3, .int .i64 e.b4, .int .i64 e.b5, .int .i64 e.b6, .int .i64 e.lo, .int .i64 e.hi, .int .i64 e.ct] (0, 0) _ GE.out Try.underlying43 rfl (by kernel_rfl) ?_)
    | (go_at_call 15; (with_reducible refine (QL.out _ HROW.out).mono ?_); rintro en v1 ⟨rfl, hb⟩; (have GP := hide ((hb.block _ (Array.getElem?_eq_some_iff.1 GP.out).1).trans GP.out)); (have GE := hide ((hb.block _ (Array.getElem?_eq_some_iff.1 GE.out).1).trans GE.out)); (have HROW := hide (HROW.out.keep hb)); (have HL := hide (HL.out.trans (hb.mono HL.out.size))); (obtain ⟨c0, c1, c2, -, -, -⟩ := tri_cells GP.out); clear hb)
    | (go_at_call 19; (with_reducible refine (QMO.out _).mono ?_); rintro en v2 ⟨rfl, rfl⟩))
  obtain ⟨dd, hdd⟩ : ∃ dd, y - 1000 = dd := ⟨_, rfl⟩
  rw [hdd]
  have hb0 : -1000 ≤ dd := by omega
  have hb1 : dd ≤ 199000 := by omega
  have QT := hide (QT.out dd ⟨hb0, hb1⟩)
  clear hdd hy0 hy1
  have QAW := hide (fun V => rule_awake V)
  have l0 : decide ((lv : Int) < 0) = false := by simp
  have l1 : decide ((L.length : Int) < (lv : Int)) = false := by simp; omega
  have l2 : decide (L.length < lv) = false := by simp; omega
  rcases Nat.eq_zero_or_pos lv with h0 | h0
  · subst h0
    have QT := hide (show ∀ V, RlRow V p L.length L → Calls Try.prog 21 #[.agg #[.slice p L.length c, .int .i64 di, .int .i64 ev], .agg #[.string e.a1, .string e.a2, .string e.a3, .string e.a4, .int .i64 e.t1, .int .i64 e.t2, .int .i64 e.t3, .int .i64 e.am, .int .i64 e.po, .slice e.p e.n e.c, .int .i64 e.x, .int .i64 e.y, .int .i64 e.z, .int .i64 e.tm, .int .i64 e.mf, .int .i64 e.lw, .int .i64 e.b1, .int .i64 e.b2, .int .i64 e.b3, .int .i64 e.b4, .int .i64 e.b5, .int .i64 e.b6, .int .i64 e.lo, .int .i64 e.hi, .int .i64 e.ct], .int .i64 (e.tm + dd)] V fun en w' => en = .returned (.bool false) ∧ Below V.heap.size V w' from fun V hV => (show decide ((0 : Nat) ≠ 0 ∧ 0 ≤ dd ∧ dd ≤ (L[0 - 1]?.getD rl0).d) = false from decide_eq_false (by omega)) ▸ QT.out V hV)
    have m13 := boxed_at GE.out (i := 13) rfl
    go_wp2_with (first
      | (refine wpList_load_rowG (by rfl) 43 (.tmp 7) (by rfl) (q1 + 1) (by rfl) 43 #[.string e.a1, .string e.a2, .string e.a3, .string e.a4, .int .i64 e.t1, .int .i64 e.t2, .int .i64 e.t3, .int .i64 e.am, .int .i64 e.po, .slice e.p e.n e.c, .int .i64 e.x, .int .i64 e.y, .int .i64 e.z, .int .i64 e.tm, .int .i64 e.mf, .int .i64 e.lw, .int .i64 e.b1, .int .i64 e.b2, .int .i64 e.b3, .int .i64 e.b4, .int .i64 e.b5, .int .i64 e.b6, .int .i64 e.lo, .int .i64 e.hi, .int .i64 e.ct] (0, 0) _ GE.out Try.underlying43 rfl (by kernel_rfl) ?_)
      | (go_at_call 21; (with_reducible refine (QT.out _ HROW.out).mono ?_); rintro en v3 ⟨rfl, hb⟩; (have HL := hide (HL.out.trans (hb.mono HL.out.size))); clear hb)
      | (go_at_call 8; (with_reducible refine (QAW.out _).mono ?_); rintro en v4 ⟨rfl, hb⟩; (have HL := hide (HL.out.trans (hb.mono HL.out.size))); clear hb))
    go_ret
    exact ⟨rfl, HL.out⟩
  · obtain ⟨q, rfl⟩ : ∃ q, lv = q + 1 := ⟨lv - 1, by omega⟩
    have hqL : q < L.length := by omega
    have e0 : (((q + 1 : Nat) : Int)) = (q : Int) + 1 := by omega
    obtain ⟨r, hrr⟩ : ∃ r, L[q] = r := ⟨_, rfl⟩
    have hr0 : L[q]?.getD rl0 = r := by rw [List.getElem?_eq_getElem hqL]; exact hrr
    have QT := hide (show ∀ β, decide (0 ≤ dd ∧ dd ≤ r.d) = β → ∀ V, RlRow V p L.length L → Calls Try.prog 21 #[.agg #[.slice p L.length c, .int .i64 di, .int .i64 ev], .agg #[.string e.a1, .string e.a2, .string e.a3, .string e.a4, .int .i64 e.t1, .int .i64 e.t2, .int .i64 e.t3, .int .i64 e.am, .int .i64 e.po, .slice e.p e.n e.c, .int .i64 e.x, .int .i64 e.y, .int .i64 e.z, .int .i64 e.tm, .int .i64 e.mf, .int .i64 e.lw, .int .i64 e.b1, .int .i64 e.b2, .int .i64 e.b3, .int .i64 e.b4, .int .i64 e.b5, .int .i64 e.b6, .int .i64 e.lo, .int .i64 e.hi, .int .i64 e.ct], .int .i64 (e.tm + dd)] V fun en w' => en = .returned (.bool β) ∧ Below V.heap.size V w' from fun β hβ V hV => (show decide ((q + 1 : Nat) ≠ 0 ∧ 0 ≤ dd ∧ dd ≤ (L[q + 1 - 1]?.getD rl0).d) = β from by rw [← hβ, Nat.add_sub_cancel, hr0]; exact decide_eq_decide.2 (by omega)) ▸ QT.out V hV)
    rw [e0]
    obtain ⟨-, h9 | ⟨b, off, hp, hc⟩⟩ := HROW.out
    · omega
    rw [hp] at QT HROW c0 ⊢
    clear hp
    obtain ⟨-, -, -, x3⟩ := hc q hqL
    rw [hrr] at x3
    clear hc hrr hr0 l0 l1 l2
    have m13 := boxed_at GE.out (i := 13) rfl
    have l0 : decide ((q : Int) + 1 < 0) = false := decide_eq_false (by omega)
    have l1 : decide ((L.length : Int) < (q : Int) + 1) = false := decide_eq_false (by omega)
    have l3 : decide ((0 : Int) < (q : Int) + 1) = true := decide_eq_true (by omega)
    have l4 : (1 : Int) ≤ (q : Int) + 1 := by omega
    have l5 : (q : Int) < (L.length : Int) := by omega
    clear e0 h0 hle
    by_cases hd0 : 0 ≤ dd
    · have d0 : decide (0 ≤ dd) = true := by simpa using hd0
      by_cases hd1 : dd ≤ r.d
      · have d1 : decide (dd ≤ r.d) = true := by simpa using hd1
        have QT := hide (QT.out true (decide_eq_true ⟨hd0, hd1⟩))
        clear hd0 hd1
        go_wp2_with (first
          | (refine wpList_load_rowG (by rfl) 43 (.tmp 7) (by rfl) (q1 + 1) (by rfl) 43 #[.string e.a1, .string e.a2, .string e.a3, .string e.a4, .int .i64 e.t1, .int .i64 e.t2, .int .i64 e.t3, .int .i64 e.am, .int .i64 e.po, .slice e.p e.n e.c, .int .i64 e.x, .int .i64 e.y, .int .i64 e.z, .int .i64 e.tm, .int .i64 e.mf, .int .i64 e.lw, .int .i64 e.b1, .int .i64 e.b2, .int .i64 e.b3, .int .i64 e.b4, .int .i64 e.b5, .int .i64 e.b6, .int .i64 e.lo, .int .i64 e.hi, .int .i64 e.ct] (0, 0) _ GE.out Try.underlying43 rfl (by kernel_rfl) ?_)
          | (go_at_call 21; (with_reducible refine (QT.out _ HROW.out).mono ?_); rintro en v3 ⟨rfl, hb⟩; (have HL := hide (HL.out.trans (hb.mono HL.out.size))); clear hb)
          | (go_at_call 8; (with_reducible refine (QAW.out _).mono ?_); rintro en v4 ⟨rfl, hb⟩; (have HL := hide (HL.out.trans (hb.mono HL.out.size))); clear hb))
        all_goals
          go_ret
          exact ⟨rfl, HL.out⟩
      · have d1 : decide (dd ≤ r.d) = false := by simpa using hd1
        have QT := hide (QT.out false (decide_eq_false (fun h => hd1 h.2)))
        clear hd0 hd1
        go_wp2_with (first
          | (refine wpList_load_rowG (by rfl) 43 (.tmp 7) (by rfl) (q1 + 1) (by rfl) 43 #[.string e.a1, .string e.a2, .string e.a3, .string e.a4, .int .i64 e.t1, .int .i64 e.t2, .int .i64 e.t3, .int .i64 e.am, .int .i64 e.po, .slice e.p e.n e.c, .int .i64 e.x, .int .i64 e.y, .int .i64 e.z, .int .i64 e.tm, .int .i64 e.mf, .int .i64 e.lw, .int .i64 e.b1, .int .i64 e.b2, .int .i64 e.b3, .int .i64 e.b4, .int .i64 e.b5, .int .i64 e.b6, .int .i64 e.lo, .int .i64 e.hi, .int .i64 e.ct] (0, 0) _ GE.out Try.underlying43 rfl (by kernel_rfl) ?_)
          | (go_at_call 21; (with_reducible refine (QT.out _ HROW.out).mono ?_); rintro en v3 ⟨rfl, hb⟩; (have HL := hide (HL.out.trans (hb.mono HL.out.size))); clear hb)
          | (go_at_call 8; (with_reducible refine (QAW.out _).mono ?_); rintro en v4 ⟨rfl, hb⟩; (have HL := hide (HL.out.trans (hb.mono HL.out.size))); clear hb))
        all_goals
          go_ret
          exact ⟨rfl, HL.out⟩
    · have d0 : decide (0 ≤ dd) = false := by simpa using hd0
      have QT := hide (QT.out false (decide_eq_false (fun h => hd0 h.1)))
      clear hd0 x3
      go_wp2_with (first
        | (refine wpList_load_rowG (by rfl) 43 (.tmp 7) (by rfl) (q1 + 1) (by rfl) 43 #[.string e.a1, .string e.a2, .string e.a3, .string e.a4, .int .i64 e.t1, .int .i64 e.t2, .int .i64 e.t3, .int .i64 e.am, .int .i64 e.po, .slice e.p e.n e.c, .int .i64 e.x, .int .i64 e.y, .int .i64 e.z, .int .i64 e.tm, .int .i64 e.mf, .int .i64 e.lw, .int .i64 e.b1, .int .i64 e.b2, .int .i64 e.b3, .int .i64 e.b4, .int .i64 e.b5, .int .i64 e.b6, .int .i64 e.lo, .int .i64 e.hi, .int .i64 e.ct] (0, 0) _ GE.out Try.underlying43 rfl (by kernel_rfl) ?_)
        | (go_at_call 21; (with_reducible refine (QT.out _ HROW.out).mono ?_); rintro en v3 ⟨rfl, hb⟩; (have HL := hide (HL.out.trans (hb.mono HL.out.size))); clear hb)
        | (go_at_call 8; (with_reducible refine (QAW.out _).mono ?_); rintro en v4 ⟨rfl, hb⟩; (have HL := hide (HL.out.trans (hb.mono HL.out.size))); clear hb))
      all_goals
        go_ret
        exact ⟨rfl, HL.out⟩

end Go.Proofs.Ytlhphhiodckaaaa
