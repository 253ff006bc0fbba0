/- RuleMoved: an event has not moved from itself, the order of two events does not matter, events of different levels have always moved. (written by gen_rulelaws.py) -/
import Derived.Test.YtlhphhiodckaaaaRuleSane
namespace Go.Proofs.Ytlhphhiodckaaaa
open Go.RowKit
set_option linter.unusedVariables false
set_option linter.unusedSimpArgs false

theorem sq_self (x y z : Int) : sqV x y z x y z = 0 := by unfold sqV; split <;> simp
theorem sq_comm (x y z a b c : Int) : sqV x y z a b c = sqV a b c x y z := by
  have h : ∀ u v : Int, (u - v) * (u - v) = (v - u) * (v - u) := fun u v => by rw [← Int.neg_sub v u, Int.neg_mul_neg]
  unfold sqV
  by_cases h1 : posB x y z = true ∧ posB a b c = true
  · rw [if_pos h1, if_pos ⟨h1.2, h1.1⟩, h x a, h y b, h z c]
  · rw [if_neg h1, if_neg (fun h2 => h1 ⟨h2.2, h2.1⟩)]
theorem agree_comm (a b c d : Int) : agreeB a b c d = agreeB c d a b := by unfold agreeB; exact decide_eq_decide.2 (by omega)
theorem mov_self (L : List Rl) (di ev : Int) (e : Ev) (h0 : 0 ≤ di) (h1 : e.lo ≤ e.hi) : movB L di ev e e = false := by
  unfold movB
  refine decide_eq_false ?_
  rintro ⟨-, h | ⟨-, h⟩ | h | h⟩
  · exact h rfl
  · rw [sq_self] at h
    have := Int.mul_nonneg h0 h0
    omega
  · rw [Int.max_self, Int.min_self] at h; omega
  · unfold agreeB at h
    have := of_decide_eq_false h
    omega
theorem mov_comm (L : List Rl) (di ev : Int) (a b : Ev) : movB L di ev a b = movB L di ev b a := by
  unfold movB
  rw [sq_comm, agree_comm, Int.max_comm, Int.min_comm]
  refine decide_eq_decide.2 ⟨fun h => ⟨h.1, ?_⟩, fun h => ⟨h.1, ?_⟩⟩ <;> (rcases h.2 with h | h | h | h) <;> first | exact .inl (Ne.symm h) | exact .inr (.inl h) | exact .inr (.inr (.inl h)) | exact .inr (.inr (.inr h))
theorem mov_lev (L : List Rl) (di ev : Int) (a b : Ev) (h : levF L di ev a ≠ levF L di ev b) : movB L di ev a b = true := by
  unfold movB
  refine decide_eq_true ⟨?_, .inl h⟩
  unfold levF at h
  by_cases hv : vE L di ev = 0
  · exact hv
  · rw [if_neg hv, if_neg hv] at h; exact absurd rfl h
set_option maxHeartbeats 8000000 in
set_option maxRecDepth 100000 in
theorem rule_moves (a : Option Addr) (len cap : Nat) (W : World) (hcap : len ≤ cap ∧ cap ≤ 9223372036854775807) (hr : IntRow W a len) :
    Calls Try.prog 5 #[.slice a len cap] W fun e w' => e = .returned (.bool true) ∧ Below W.heap.size W w' := by
  obtain ⟨m, hm, QN⟩ := keep_new a len cap hcap W hr
  have QN := hide QN
  clear hcap hr
  go_enter Try.func5, Try.ntmps5
  go_upto_region 3 with (first
    | (go_at_call 9; (with_reducible refine (QN.out).mono ?_); rintro en w1 ⟨rfl, hd⟩; (have HD := hide hd); (have hg1 := hd.lt); clear hd)
    | (go_at_call 10; (with_reducible refine (keep_policy _ HD.out).mono ?_); rintro en w2 ⟨⟨L, di, ev, p, c, rfl, hL1, hL3, hOK, ⟨di0, di1⟩, ⟨ev0, ev1⟩, hrow, hc1, hc2, hpb⟩, hd, hr1⟩; (have HD := hide hd); (have HOK := hide hOK); (have HROW := hide hrow); (have HPB := hide (fun b off (hp : p = some ⟨b, off, none⟩) => (show b ≠ W.heap.size from (by have := hpb b off hp; omega)))); (have hg2 := hd.lt); clear hd hr1 hOK hrow hpb)
    | (go_at_call 11; (with_reducible refine (keep_event 1 ⟨by omega, by omega⟩ _ HD.out).mono ?_); rintro en w3 ⟨⟨x, Ax, rfl, hA1x, hA4x, hfrx, hokx, hownx⟩, hd, hr1⟩; (have HROW := hide (HROW.out.heap fun b off hp hl => .inr (hr1.block b hl (HPB.out b off hp)))); (have HD := hide hd); (have HOWx := hide hownx); (have HFRx := hide hfrx); (have HOKx := hide hokx); clear hd hr1 hfrx hokx hownx)
    | (go_at_call 11; (with_reducible refine (keep_event 2 ⟨by omega, by omega⟩ _ HD.out).mono ?_); rintro en w4 ⟨⟨y, Ay, rfl, hA1y, hA4y, hfry, hoky, howny⟩, hd, hr1⟩; (have HROW := hide (HROW.out.heap fun b off hp hl => .inr (hr1.block b hl (HPB.out b off hp)))); (have HD := hide hd); (have HOWx := hide (owns_heap HOWx.out fun k h1 h2 => hr1.block k h2 (by omega))); (have HOWy := hide howny); (have HFRy := hide hfry); (have HOKy := hide hoky); clear hd hr1 hfry hoky howny; (have GX0 := hide (pair_alloc (new_at (w := w4.alloc (.cells #[.slice p L.length c, .int .i64 di, .int .i64 ev] 24)) (.cells #[.string ⟨#[]⟩, .string ⟨#[]⟩, .string ⟨#[]⟩, .string ⟨#[]⟩, .int .i64 0, .int .i64 0, .int .i64 0, .int .i64 0, .int .i64 0, .slice none 0 0, .int .i64 0, .int .i64 0, .int .i64 0, .int .i64 0, .int .i64 0, .int .i64 0, .int .i64 0, .int .i64 0, .int .i64 0, .int .i64 0, .int .i64 0, .int .i64 0, .int .i64 0, .int .i64 0, .int .i64 0] 43) (g := w4.heap.size + 1) (by simp)) (.cells #[.string ⟨#[]⟩, .string ⟨#[]⟩, .string ⟨#[]⟩, .string ⟨#[]⟩, .int .i64 0, .int .i64 0, .int .i64 0, .int .i64 0, .int .i64 0, .slice none 0 0, .int .i64 0, .int .i64 0, .int .i64 0, .int .i64 0, .int .i64 0, .int .i64 0, .int .i64 0, .int .i64 0, .int .i64 0, .int .i64 0, .int .i64 0, .int .i64 0, .int .i64 0, .int .i64 0, .int .i64 0] 43))); (have GY0 := hide ((sets_other (show w4.heap.size + 1 + 1 ≠ w4.heap.size + 1 by omega) [.string x.a1, .string x.a2, .string x.a3, .string x.a4, .int .i64 x.t1, .int .i64 x.t2, .int .i64 x.t3, .int .i64 x.am, .int .i64 x.po, .slice x.p x.n x.c, .int .i64 x.x, .int .i64 x.y, .int .i64 x.z, .int .i64 x.tm, .int .i64 x.mf, .int .i64 x.lw, .int .i64 x.b1, .int .i64 x.b2, .int .i64 x.b3, .int .i64 x.b4, .int .i64 x.b5, .int .i64 x.b6, .int .i64 x.lo, .int .i64 x.hi, .int .i64 x.ct] _ 0).trans (new_at (w := (w4.alloc (.cells #[.slice p L.length c, .int .i64 di, .int .i64 ev] 24)).alloc (.cells #[.string ⟨#[]⟩, .string ⟨#[]⟩, .string ⟨#[]⟩, .string ⟨#[]⟩, .int .i64 0, .int .i64 0, .int .i64 0, .int .i64 0, .int .i64 0, .slice none 0 0, .int .i64 0, .int .i64 0, .int .i64 0, .int .i64 0, .int .i64 0, .int .i64 0, .int .i64 0, .int .i64 0, .int .i64 0, .int .i64 0, .int .i64 0, .int .i64 0, .int .i64 0, .int .i64 0, .int .i64 0] 43)) (.cells #[.string ⟨#[]⟩, .string ⟨#[]⟩, .string ⟨#[]⟩, .string ⟨#[]⟩, .int .i64 0, .int .i64 0, .int .i64 0, .int .i64 0, .int .i64 0, .slice none 0 0, .int .i64 0, .int .i64 0, .int .i64 0, .int .i64 0, .int .i64 0, .int .i64 0, .int .i64 0, .int .i64 0, .int .i64 0, .int .i64 0, .int .i64 0, .int .i64 0, .int .i64 0, .int .i64 0, .int .i64 0] 43) (g := w4.heap.size + 1 + 1) (by simp)))))
    | (refine wpList_store_mid (by rfl) 43 (.tmp 5) (.tmp 12) (by rfl) (w4.heap.size + 1) 0 #[.string x.a1, .string x.a2, .string x.a3, .string x.a4, .int .i64 x.t1, .int .i64 x.t2, .int .i64 x.t3, .int .i64 x.am, .int .i64 x.po, .slice x.p x.n x.c, .int .i64 x.x, .int .i64 x.y, .int .i64 x.z, .int .i64 x.tm, .int .i64 x.mf, .int .i64 x.lw, .int .i64 x.b1, .int .i64 x.b2, .int .i64 x.b3, .int .i64 x.b4, .int .i64 x.b5, .int .i64 x.b6, .int .i64 x.lo, .int .i64 x.hi, .int .i64 x.ct] (by rfl) (by rfl) ?_ (by kernel_rfl) (by simp [Value.oneCell']) ?_; (focus exact there_row GX0.out 0 25 (by simp)))
    | (refine wpList_store_mid (by rfl) 43 (.tmp 6) (.tmp 14) (by rfl) (w4.heap.size + 1 + 1) 0 #[.string y.a1, .string y.a2, .string y.a3, .string y.a4, .int .i64 y.t1, .int .i64 y.t2, .int .i64 y.t3, .int .i64 y.am, .int .i64 y.po, .slice y.p y.n y.c, .int .i64 y.x, .int .i64 y.y, .int .i64 y.z, .int .i64 y.tm, .int .i64 y.mf, .int .i64 y.lw, .int .i64 y.b1, .int .i64 y.b2, .int .i64 y.b3, .int .i64 y.b4, .int .i64 y.b5, .int .i64 y.b6, .int .i64 y.lo, .int .i64 y.hi, .int .i64 y.ct] (by rfl) (by rfl) ?_ (by kernel_rfl) (by simp [Value.oneCell']) ?_; (focus exact there_row GY0.out 0 25 (by simp))))
  simp only [Act.put]
  have HV := hide ((((below3a (w := w4) (.cells #[.slice p L.length c, .int .i64 di, .int .i64 ev] 24) (.cells #[.string ⟨#[]⟩, .string ⟨#[]⟩, .string ⟨#[]⟩, .string ⟨#[]⟩, .int .i64 0, .int .i64 0, .int .i64 0, .int .i64 0, .int .i64 0, .slice none 0 0, .int .i64 0, .int .i64 0, .int .i64 0, .int .i64 0, .int .i64 0, .int .i64 0, .int .i64 0, .int .i64 0, .int .i64 0, .int .i64 0, .int .i64 0, .int .i64 0, .int .i64 0, .int .i64 0, .int .i64 0] 43) (.cells #[.string ⟨#[]⟩, .string ⟨#[]⟩, .string ⟨#[]⟩, .string ⟨#[]⟩, .int .i64 0, .int .i64 0, .int .i64 0, .int .i64 0, .int .i64 0, .slice none 0 0, .int .i64 0, .int .i64 0, .int .i64 0, .int .i64 0, .int .i64 0, .int .i64 0, .int .i64 0, .int .i64 0, .int .i64 0, .int .i64 0, .int .i64 0, .int .i64 0, .int .i64 0, .int .i64 0, .int .i64 0] 43)).trans ((sets_below (g := w4.heap.size + 1) [.string x.a1, .string x.a2, .string x.a3, .string x.a4, .int .i64 x.t1, .int .i64 x.t2, .int .i64 x.t3, .int .i64 x.am, .int .i64 x.po, .slice x.p x.n x.c, .int .i64 x.x, .int .i64 x.y, .int .i64 x.z, .int .i64 x.tm, .int .i64 x.mf, .int .i64 x.lw, .int .i64 x.b1, .int .i64 x.b2, .int .i64 x.b3, .int .i64 x.b4, .int .i64 x.b5, .int .i64 x.b6, .int .i64 x.lo, .int .i64 x.hi, .int .i64 x.ct] _ 0).mono (Nat.le_succ _))).trans ((sets_below (g := w4.heap.size + 1 + 1) [.string y.a1, .string y.a2, .string y.a3, .string y.a4, .int .i64 y.t1, .int .i64 y.t2, .int .i64 y.t3, .int .i64 y.am, .int .i64 y.po, .slice y.p y.n y.c, .int .i64 y.x, .int .i64 y.y, .int .i64 y.z, .int .i64 y.tm, .int .i64 y.mf, .int .i64 y.lw, .int .i64 y.b1, .int .i64 y.b2, .int .i64 y.b3, .int .i64 y.b4, .int .i64 y.b5, .int .i64 y.b6, .int .i64 y.lo, .int .i64 y.hi, .int .i64 y.ct] _ 0).mono (by omega))))
  have GP := hide ((sets_other (show w4.heap.size ≠ w4.heap.size + 1 + 1 by omega) [.string y.a1, .string y.a2, .string y.a3, .string y.a4, .int .i64 y.t1, .int .i64 y.t2, .int .i64 y.t3, .int .i64 y.am, .int .i64 y.po, .slice y.p y.n y.c, .int .i64 y.x, .int .i64 y.y, .int .i64 y.z, .int .i64 y.tm, .int .i64 y.mf, .int .i64 y.lw, .int .i64 y.b1, .int .i64 y.b2, .int .i64 y.b3, .int .i64 y.b4, .int .i64 y.b5, .int .i64 y.b6, .int .i64 y.lo, .int .i64 y.hi, .int .i64 y.ct] _ 0).trans ((sets_other (show w4.heap.size ≠ w4.heap.size + 1 by omega) [.string x.a1, .string x.a2, .string x.a3, .string x.a4, .int .i64 x.t1, .int .i64 x.t2, .int .i64 x.t3, .int .i64 x.am, .int .i64 x.po, .slice x.p x.n x.c, .int .i64 x.x, .int .i64 x.y, .int .i64 x.z, .int .i64 x.tm, .int .i64 x.mf, .int .i64 x.lw, .int .i64 x.b1, .int .i64 x.b2, .int .i64 x.b3, .int .i64 x.b4, .int .i64 x.b5, .int .i64 x.b6, .int .i64 x.lo, .int .i64 x.hi, .int .i64 x.ct] _ 0).trans (pair_alloc (pair_alloc (heap_alloc_new w4 (.cells #[.slice p L.length c, .int .i64 di, .int .i64 ev] 24)) (.cells #[.string ⟨#[]⟩, .string ⟨#[]⟩, .string ⟨#[]⟩, .string ⟨#[]⟩, .int .i64 0, .int .i64 0, .int .i64 0, .int .i64 0, .int .i64 0, .slice none 0 0, .int .i64 0, .int .i64 0, .int .i64 0, .int .i64 0, .int .i64 0, .int .i64 0, .int .i64 0, .int .i64 0, .int .i64 0, .int .i64 0, .int .i64 0, .int .i64 0, .int .i64 0, .int .i64 0, .int .i64 0] 43)) (.cells #[.string ⟨#[]⟩, .string ⟨#[]⟩, .string ⟨#[]⟩, .string ⟨#[]⟩, .int .i64 0, .int .i64 0, .int .i64 0, .int .i64 0, .int .i64 0, .slice none 0 0, .int .i64 0, .int .i64 0, .int .i64 0, .int .i64 0, .int .i64 0, .int .i64 0, .int .i64 0, .int .i64 0, .int .i64 0, .int .i64 0, .int .i64 0, .int .i64 0, .int .i64 0, .int .i64 0, .int .i64 0] 43))))
  have GX := hide ((sets_other (show w4.heap.size + 1 ≠ w4.heap.size + 1 + 1 by omega) [.string y.a1, .string y.a2, .string y.a3, .string y.a4, .int .i64 y.t1, .int .i64 y.t2, .int .i64 y.t3, .int .i64 y.am, .int .i64 y.po, .slice y.p y.n y.c, .int .i64 y.x, .int .i64 y.y, .int .i64 y.z, .int .i64 y.tm, .int .i64 y.mf, .int .i64 y.lw, .int .i64 y.b1, .int .i64 y.b2, .int .i64 y.b3, .int .i64 y.b4, .int .i64 y.b5, .int .i64 y.b6, .int .i64 y.lo, .int .i64 y.hi, .int .i64 y.ct] _ 0).trans ((sets_heap [.string x.a1, .string x.a2, .string x.a3, .string x.a4, .int .i64 x.t1, .int .i64 x.t2, .int .i64 x.t3, .int .i64 x.am, .int .i64 x.po, .slice x.p x.n x.c, .int .i64 x.x, .int .i64 x.y, .int .i64 x.z, .int .i64 x.tm, .int .i64 x.mf, .int .i64 x.lw, .int .i64 x.b1, .int .i64 x.b2, .int .i64 x.b3, .int .i64 x.b4, .int .i64 x.b5, .int .i64 x.b6, .int .i64 x.lo, .int .i64 x.hi, .int .i64 x.ct] _ _ 0 GX0.out).trans (show _ = some (.cells #[.string x.a1, .string x.a2, .string x.a3, .string x.a4, .int .i64 x.t1, .int .i64 x.t2, .int .i64 x.t3, .int .i64 x.am, .int .i64 x.po, .slice x.p x.n x.c, .int .i64 x.x, .int .i64 x.y, .int .i64 x.z, .int .i64 x.tm, .int .i64 x.mf, .int .i64 x.lw, .int .i64 x.b1, .int .i64 x.b2, .int .i64 x.b3, .int .i64 x.b4, .int .i64 x.b5, .int .i64 x.b6, .int .i64 x.lo, .int .i64 x.hi, .int .i64 x.ct] 43 (0, 0)) from by kernel_rfl)))
  have GY := hide ((sets_heap [.string y.a1, .string y.a2, .string y.a3, .string y.a4, .int .i64 y.t1, .int .i64 y.t2, .int .i64 y.t3, .int .i64 y.am, .int .i64 y.po, .slice y.p y.n y.c, .int .i64 y.x, .int .i64 y.y, .int .i64 y.z, .int .i64 y.tm, .int .i64 y.mf, .int .i64 y.lw, .int .i64 y.b1, .int .i64 y.b2, .int .i64 y.b3, .int .i64 y.b4, .int .i64 y.b5, .int .i64 y.b6, .int .i64 y.lo, .int .i64 y.hi, .int .i64 y.ct] _ _ 0 GY0.out).trans (show _ = some (.cells #[.string y.a1, .string y.a2, .string y.a3, .string y.a4, .int .i64 y.t1, .int .i64 y.t2, .int .i64 y.t3, .int .i64 y.am, .int .i64 y.po, .slice y.p y.n y.c, .int .i64 y.x, .int .i64 y.y, .int .i64 y.z, .int .i64 y.tm, .int .i64 y.mf, .int .i64 y.lw, .int .i64 y.b1, .int .i64 y.b2, .int .i64 y.b3, .int .i64 y.b4, .int .i64 y.b5, .int .i64 y.b6, .int .i64 y.lo, .int .i64 y.hi, .int .i64 y.ct] 43 (0, 0)) from by kernel_rfl))
  have HROW := hide (HROW.out.keep HV.out)
  have HL := hide (HD.out.low.trans (HV.out.mono HD.out.low.size))
  clear HV HD HPB HOWx HOWy GX0 GY0
  generalize ((((w4.alloc (.cells #[.slice p L.length c, .int .i64 di, .int .i64 ev] 24)).alloc (.cells #[.string ⟨#[]⟩, .string ⟨#[]⟩, .string ⟨#[]⟩, .string ⟨#[]⟩, .int .i64 0, .int .i64 0, .int .i64 0, .int .i64 0, .int .i64 0, .slice none 0 0, .int .i64 0, .int .i64 0, .int .i64 0, .int .i64 0, .int .i64 0, .int .i64 0, .int .i64 0, .int .i64 0, .int .i64 0, .int .i64 0, .int .i64 0, .int .i64 0, .int .i64 0, .int .i64 0, .int .i64 0] 43)).alloc (.cells #[.string ⟨#[]⟩, .string ⟨#[]⟩, .string ⟨#[]⟩, .string ⟨#[]⟩, .int .i64 0, .int .i64 0, .int .i64 0, .int .i64 0, .int .i64 0, .slice none 0 0, .int .i64 0, .int .i64 0, .int .i64 0, .int .i64 0, .int .i64 0, .int .i64 0, .int .i64 0, .int .i64 0, .int .i64 0, .int .i64 0, .int .i64 0, .int .i64 0, .int .i64 0, .int .i64 0, .int .i64 0] 43)).setCells (w4.heap.size + 1) 0 [.string x.a1, .string x.a2, .string x.a3, .string x.a4, .int .i64 x.t1, .int .i64 x.t2, .int .i64 x.t3, .int .i64 x.am, .int .i64 x.po, .slice x.p x.n x.c, .int .i64 x.x, .int .i64 x.y, .int .i64 x.z, .int .i64 x.tm, .int .i64 x.mf, .int .i64 x.lw, .int .i64 x.b1, .int .i64 x.b2, .int .i64 x.b3, .int .i64 x.b4, .int .i64 x.b5, .int .i64 x.b6, .int .i64 x.lo, .int .i64 x.hi, .int .i64 x.ct]).setCells (w4.heap.size + 1 + 1) 0 [.string y.a1, .string y.a2, .string y.a3, .string y.a4, .int .i64 y.t1, .int .i64 y.t2, .int .i64 y.t3, .int .i64 y.am, .int .i64 y.po, .slice y.p y.n y.c, .int .i64 y.x, .int .i64 y.y, .int .i64 y.z, .int .i64 y.tm, .int .i64 y.mf, .int .i64 y.lw, .int .i64 y.b1, .int .i64 y.b2, .int .i64 y.b3, .int .i64 y.b4, .int .i64 y.b5, .int .i64 y.b6, .int .i64 y.lo, .int .i64 y.hi, .int .i64 y.ct] = V at GP GX GY HROW HL ⊢
  generalize w4.heap.size = q1 at GP GX GY ⊢
  have QXX := hide (fun V hV => (mov_self L di ev x di0 HOKx.out.hi.1) ▸ rule_moved L di ev p L.length c (by omega) x x (by have := HOKx.out.tm; omega) (by have := HOKx.out.tm; omega) V hV)
  have QXY := hide (fun V hV => rule_moved L di ev p L.length c (by omega) x y (by have := HOKx.out.tm; omega) (by have := HOKy.out.tm; omega) V hV)
  have QYX := hide (fun V hV => (mov_comm L di ev y x) ▸ rule_moved L di ev p L.length c (by omega) y x (by have := HOKy.out.tm; omega) (by have := HOKx.out.tm; omega) V hV)
  have QLX := hide (fun V hV => rule_level L di ev p L.length c (by omega) x V hV)
  have QLY := hide (fun V hV => rule_level L di ev p L.length c (by omega) y V hV)
  have QAW := hide (fun V => rule_awake V)
  have HLM := hide (mov_lev L di ev x y)
  generalize movB L di ev x y = β at QXY QYX HLM
  generalize levF L di ev x = la at QLX HLM
  generalize levF L di ev y = lb at QLY HLM
  refine wp_region_grown (by kernel_rfl) (by kernel_rfl) ?_
  have MP := hide (fun W (h : ∃ p, W = more V p) => show W.heap[q1]? = _ from by obtain ⟨q, rfl⟩ := h; exact heap_more GP.out q)
  have MX := hide (fun W (h : ∃ p, W = more V p) => show W.heap[q1 + 1]? = _ from by obtain ⟨q, rfl⟩ := h; exact heap_more GX.out q)
  have MY := hide (fun W (h : ∃ p, W = more V p) => show W.heap[q1 + 1 + 1]? = _ from by obtain ⟨q, rfl⟩ := h; exact heap_more GY.out q)
  have HRM := hide (fun q => HROW.out.keep (below_more V q))
  have bne : (β != β) = false := by simp
  repeat (first
    | (refine wpQuiet_load_row (by rfl) 24 (.tmp 4) (by rfl) q1 (by rfl) 24 _ (0, 0) _ MP.out Try.underlying24 rfl (by kernel_rfl) ?_; simp only [Act.put, List.setIfInBounds_toArray, List.set_cons_succ, List.set_cons_zero])
    | (refine wpQuiet_load_row (by rfl) 43 (.tmp 5) (by rfl) (q1 + 1) (by rfl) 43 _ (0, 0) _ MX.out Try.underlying43 rfl (by kernel_rfl) ?_; simp only [Act.put, List.setIfInBounds_toArray, List.set_cons_succ, List.set_cons_zero])
    | (refine wpQuiet_load_row (by rfl) 43 (.tmp 6) (by rfl) (q1 + 1 + 1) (by rfl) 43 _ (0, 0) _ MY.out Try.underlying43 rfl (by kernel_rfl) ?_; simp only [Act.put, List.setIfInBounds_toArray, List.set_cons_succ, List.set_cons_zero])
    | go_big_quiet_step ((first
        | (go_at_call 23; with_reducible exact more_of (QXX.out _ (HRM.out _)))
        | (go_at_call 23; with_reducible exact more_of (QXY.out _ (HRM.out _)))
        | (go_at_call 23; with_reducible exact more_of (QYX.out _ (HRM.out _))))))
  refine wpQuiet_nil ?_
  intro w3 hb3
  have GP := hide ((hb3.block _ (Array.getElem?_eq_some_iff.1 GP.out).1).trans GP.out)
  have GX := hide ((hb3.block _ (Array.getElem?_eq_some_iff.1 GX.out).1).trans GX.out)
  have GY := hide ((hb3.block _ (Array.getElem?_eq_some_iff.1 GY.out).1).trans GY.out)
  have HROW := hide (HROW.out.keep hb3)
  have HL := hide (HL.out.trans (hb3.mono HL.out.size))
  clear hb3 MP MX MY HRM QXX QYX
  go_upto_region 5 with fail
  have MP := hide (fun W (h : ∃ p, W = more w3 p) => show W.heap[q1]? = _ from by obtain ⟨q, rfl⟩ := h; exact heap_more GP.out q)
  have MX := hide (fun W (h : ∃ p, W = more w3 p) => show W.heap[q1 + 1]? = _ from by obtain ⟨q, rfl⟩ := h; exact heap_more GX.out q)
  have MY := hide (fun W (h : ∃ p, W = more w3 p) => show W.heap[q1 + 1 + 1]? = _ from by obtain ⟨q, rfl⟩ := h; exact heap_more GY.out q)
  have HRM := hide (fun q => HROW.out.keep (below_more w3 q))
  by_cases hl : la = lb
  · have d : ((la : Int) == (lb : Int)) = true := by simp [hl]
    clear bne hl
    refine wp_region_grown (by kernel_rfl) (by kernel_rfl) ?_
    repeat (first
      | (refine wpQuiet_load_row (by rfl) 24 (.tmp 4) (by rfl) q1 (by rfl) 24 _ (0, 0) _ MP.out Try.underlying24 rfl (by kernel_rfl) ?_; simp only [Act.put, List.setIfInBounds_toArray, List.set_cons_succ, List.set_cons_zero])
      | (refine wpQuiet_load_row (by rfl) 43 (.tmp 5) (by rfl) (q1 + 1) (by rfl) 43 _ (0, 0) _ MX.out Try.underlying43 rfl (by kernel_rfl) ?_; simp only [Act.put, List.setIfInBounds_toArray, List.set_cons_succ, List.set_cons_zero])
      | (refine wpQuiet_load_row (by rfl) 43 (.tmp 6) (by rfl) (q1 + 1 + 1) (by rfl) 43 _ (0, 0) _ MY.out Try.underlying43 rfl (by kernel_rfl) ?_; simp only [Act.put, List.setIfInBounds_toArray, List.set_cons_succ, List.set_cons_zero])
      | go_big_quiet_step ((first
          | (go_at_call 15; with_reducible exact more_of (QLX.out _ (HRM.out _)))
          | (go_at_call 15; with_reducible exact more_of (QLY.out _ (HRM.out _)))
          | (go_at_call 23; with_reducible exact more_of (QXY.out _ (HRM.out _)))
          | (go_at_call 8; with_reducible exact more_of (QAW.out _)))))
    refine wpQuiet_nil ?_
    intro w5 hb5
    go_wp2_with fail
    go_ret
    exact ⟨rfl, HL.out.trans (hb5.mono HL.out.size)⟩
  · have d : ((la : Int) == (lb : Int)) = false := by simp; omega
    have hβ := HLM.out hl
    rw [hβ] at QXY
    clear bne hl hβ
    refine wp_region_grown (by kernel_rfl) (by kernel_rfl) ?_
    repeat (first
      | (refine wpQuiet_load_row (by rfl) 24 (.tmp 4) (by rfl) q1 (by rfl) 24 _ (0, 0) _ MP.out Try.underlying24 rfl (by kernel_rfl) ?_; simp only [Act.put, List.setIfInBounds_toArray, List.set_cons_succ, List.set_cons_zero])
      | (refine wpQuiet_load_row (by rfl) 43 (.tmp 5) (by rfl) (q1 + 1) (by rfl) 43 _ (0, 0) _ MX.out Try.underlying43 rfl (by kernel_rfl) ?_; simp only [Act.put, List.setIfInBounds_toArray, List.set_cons_succ, List.set_cons_zero])
      | (refine wpQuiet_load_row (by rfl) 43 (.tmp 6) (by rfl) (q1 + 1 + 1) (by rfl) 43 _ (0, 0) _ MY.out Try.underlying43 rfl (by kernel_rfl) ?_; simp only [Act.put, List.setIfInBounds_toArray, List.set_cons_succ, List.set_cons_zero])
      | go_big_quiet_step ((first
          | (go_at_call 15; with_reducible exact more_of (QLX.out _ (HRM.out _)))
          | (go_at_call 15; with_reducible exact more_of (QLY.out _ (HRM.out _)))
          | (go_at_call 23; with_reducible exact more_of (QXY.out _ (HRM.out _)))
          | (go_at_call 8; with_reducible exact more_of (QAW.out _)))))
    refine wpQuiet_nil ?_
    intro w5 hb5
    go_wp2_with fail
    go_ret
    exact ⟨rfl, HL.out.trans (hb5.mono HL.out.size)⟩

end Go.Proofs.Ytlhphhiodckaaaa
