/- RuleMonotone: a weaker rule is met by every event that meets a stronger one, and the level is that of the last rule that is met. (written by gen_rulelaws.py) -/
import Derived.Test.YtlhphhiodckaaaaRuleSane
namespace Go.Proofs.Ytlhphhiodckaaaa
open Go.RowKit
set_option linter.unusedVariables false
set_option linter.unusedSimpArgs false

theorem levN_top (L : List Rl) (e : Ev) : ∀ k j, j < k → levN L e k ≤ j → meetsB (L[j]?.getD rl0) e = false
  | 0, j, h, _ => by omega
  | k + 1, j, h, h2 => by
    unfold levN at h2
    by_cases hm : meetsB (L[k]?.getD rl0) e = true
    · rw [if_pos hm] at h2; omega
    · rw [if_neg hm] at h2
      by_cases hj : j = k
      · subst hj; simpa using hm
      · exact levN_top L e k j (by omega) h2
theorem levN_is (L : List Rl) (e : Ev) : ∀ k j, levN L e k = j + 1 → meetsB (L[j]?.getD rl0) e = true
  | 0, j, h => by unfold levN at h; omega
  | k + 1, j, h => by
    unfold levN at h
    by_cases hm : meetsB (L[k]?.getD rl0) e = true
    · rw [if_pos hm] at h; obtain rfl : k = j := by omega
      exact hm
    · rw [if_neg hm] at h; exact levN_is L e k j h
theorem vE_ok {L : List Rl} {di ev : Int} (h1 : 1 ≤ L.length) (h3 : L.length ≤ 3) (hd : 0 ≤ di ∧ di ≤ 1000) (he : 0 ≤ ev ∧ ev ≤ 500) (hr : ∀ r ∈ L, RlOk r) : vE L di ev = 0 := by
  unfold vE
  refine if_pos ⟨by omega, by omega, by omega, fun r h => ?_⟩
  obtain ⟨a1, a2, a3, a4, a5, a6, a7, a8⟩ := hr r h
  unfold validB
  exact decide_eq_true (by omega)
theorem meets_weak {r k : Rl} {e : Ev} (h1 : k.m ≤ r.m) (h2 : k.p ≤ r.p) (h3 : r.f ≤ k.f) (h : meetsB r e = true) : meetsB k e = true := by
  unfold meetsB at h ⊢
  have := of_decide_eq_true h
  exact decide_eq_true (by omega)
structure MonC (W : World) (a : Option Addr) (m cap g : Nat) (V : World) (q1 : Nat) (RL : List Rl) (di ev : Int) (p : Option Addr) (c : Nat) (L : Nat → Bool) (u : Nat → Value) (x : World) : Prop where
  src : Src W a m cap g x
  rol : Rolls g V x
  bp : x.heap[q1]? = some (.cells #[.slice p RL.length c, .int .i64 di, .int .i64 ev] 24 (0, 0))
  row : RlRow x p RL.length RL
  f0 : L 0 = true → u 16 = .pointer (some ⟨q1, 0, none⟩)
  f1 : L 1 = true → u 17 = .slice p RL.length c
  f2 : L 2 = true → u 18 = .pointer (some ⟨g, 0, none⟩)
  f3 : L 3 = true → u 19 = .pointer (some ⟨q1, 0, none⟩)
  f4 : L 4 = true → u 20 = .slice p RL.length c
  f5 : L 5 = true → u 21 = .int .i64 (RL.length : Nat)
  f6 : L 6 = true → ∃ j : Nat, u 22 = .int .i64 (j : Nat) ∧ j < RL.length
  f7 : L 7 = true → ∃ j b off : Nat, p = some ⟨b, off, none⟩ ∧ u 23 = .pointer (some ⟨b, off + j * 4, none⟩) ∧ j < RL.length
  f8 : L 8 = true → ∃ r : Rl, r ∈ RL ∧ u 24 = .agg #[.int .i64 r.m, .int .i64 r.p, .int .i64 r.f, .int .i64 r.d]
  f9 : L 9 = true → ∃ k : Nat, u 6 = .pointer (some ⟨k, 0, none⟩) ∧ V.heap.size ≤ k ∧ (L 10 = false → x.heap[k]? = some (.cells #[.int .i64 0, .int .i64 0, .int .i64 0, .int .i64 0] 26 (0, 0)))
  f10 : L 10 = true → ∃ (r : Rl) (k : Nat), r ∈ RL ∧ u 6 = .pointer (some ⟨k, 0, none⟩) ∧ V.heap.size ≤ k ∧ x.heap[k]? = some (.cells #[.int .i64 r.m, .int .i64 r.p, .int .i64 r.f, .int .i64 r.d] 26 (0, 0))
theorem MonC.rolls {W : World} {a : Option Addr} {m cap g : Nat} {V : World} {q1 : Nat} {RL : List Rl} {di ev : Int} {p : Option Addr} {c : Nat} {L : Nat → Bool} {u : Nat → Value} {x y : World} (h : MonC W a m cap g V q1 RL di ev p c L u x) (hg : g < V.heap.size) (hq : q1 ≠ g) (hp : ∀ b off, p = some ⟨b, off, none⟩ → b ≠ g) (hd : Src W a m cap g y) (hr : Rolls g x y) : MonC W a m cap g V q1 RL di ev p c L u y :=
  { h with
    src := hd
    rol := h.rol.trans hr
    bp := hr.blk h.bp hq
    row := h.row.heap fun b off hb hl => .inr (hr.block b hl (hp b off hb))
    f9 := fun e => by
      obtain ⟨k, h1, h2, h3⟩ := h.f9 e
      exact ⟨k, h1, h2, fun e => hr.blk (h3 e) (by omega)⟩
    f10 := fun e => by
      obtain ⟨r, k, h0, h1, h2, h3⟩ := h.f10 e
      exact ⟨r, k, h0, h1, h2, hr.blk h3 (by omega)⟩ }
structure MonD (W : World) (a : Option Addr) (m cap g : Nat) (V : World) (k6 : Nat) (r : Rl) (L : Nat → Bool) (u : Nat → Value) (x : World) : Prop where
  src : Src W a m cap g x
  rol : Rolls g V x
  b6 : x.heap[k6]? = some (.cells #[.int .i64 r.m, .int .i64 r.p, .int .i64 r.f, .int .i64 r.d] 26 (0, 0))
  f0 : L 0 = true → u 25 = .pointer (some ⟨k6, 0, none⟩)
  f1 : L 1 = true → u 26 = .int .i64 r.m
  f2 : L 2 = true → u 27 = .pointer (some ⟨g, 0, none⟩)
  f3 : L 3 = true → ∃ z : Int, u 28 = .int .i64 z ∧ 0 ≤ z ∧ z < 50
  f4 : L 4 = true → ∃ z : Int, u 29 = .int .i64 z ∧ -1000 ≤ z ∧ z ≤ r.m
  f5 : L 5 = true → u 30 = .pointer (some ⟨k6, 1, none⟩)
  f6 : L 6 = true → u 31 = .int .i64 r.p
  f7 : L 7 = true → u 32 = .pointer (some ⟨g, 0, none⟩)
  f8 : L 8 = true → ∃ z : Int, u 33 = .int .i64 z ∧ 0 ≤ z ∧ z < 3
  f9 : L 9 = true → ∃ z : Int, u 34 = .int .i64 z ∧ -10 ≤ z ∧ z ≤ r.p
  f10 : L 10 = true → ∃ z : Int, u 35 = .int .i64 z ∧ 1 ≤ z ∧ z ≤ r.p
  f11 : L 11 = true → u 36 = .pointer (some ⟨k6, 2, none⟩)
  f12 : L 12 = true → u 37 = .int .i64 r.f
  f13 : L 13 = true → u 38 = .pointer (some ⟨g, 0, none⟩)
  f14 : L 14 = true → ∃ z : Int, u 39 = .int .i64 z ∧ 0 ≤ z ∧ z < 50
  f15 : L 15 = true → ∃ z : Int, u 40 = .int .i64 z ∧ r.f ≤ z ∧ z ≤ 20000
  f16 : L 16 = true → u 41 = .pointer (some ⟨k6, 3, none⟩)
  f17 : L 17 = true → u 42 = .int .i64 r.d
  f18 : L 18 = true → ∃ k : Rl, (k.m ≤ r.m ∧ k.p ≤ r.p ∧ r.f ≤ k.f) ∧ u 43 = .agg #[.int .i64 k.m, .int .i64 k.p, .int .i64 k.f, .int .i64 k.d]
  f19 : L 19 = true → ∃ k7 : Nat, u 7 = .pointer (some ⟨k7, 0, none⟩) ∧ V.heap.size ≤ k7 ∧ (L 20 = false → x.heap[k7]? = some (.cells #[.int .i64 0, .int .i64 0, .int .i64 0, .int .i64 0] 26 (0, 0)))
  f20 : L 20 = true → ∃ (k : Rl) (k7 : Nat), (k.m ≤ r.m ∧ k.p ≤ r.p ∧ r.f ≤ k.f) ∧ u 7 = .pointer (some ⟨k7, 0, none⟩) ∧ V.heap.size ≤ k7 ∧ x.heap[k7]? = some (.cells #[.int .i64 k.m, .int .i64 k.p, .int .i64 k.f, .int .i64 k.d] 26 (0, 0))
theorem MonD.rolls {W : World} {a : Option Addr} {m cap g : Nat} {V : World} {k6 : Nat} {r : Rl} {L : Nat → Bool} {u : Nat → Value} {x y : World} (h : MonD W a m cap g V k6 r L u x) (hg : g < V.heap.size) (hq : k6 ≠ g) (hd : Src W a m cap g y) (hr : Rolls g x y) : MonD W a m cap g V k6 r L u y :=
  { h with
    src := hd
    rol := h.rol.trans hr
    b6 := hr.blk h.b6 hq
    f19 := fun e => by
      obtain ⟨k, h1, h2, h3⟩ := h.f19 e
      exact ⟨k, h1, h2, fun e => hr.blk (h3 e) (by omega)⟩
    f20 := fun e => by
      obtain ⟨r, k, h0, h1, h2, h3⟩ := h.f20 e
      exact ⟨r, k, h0, h1, h2, hr.blk h3 (by omega)⟩ }
set_option maxHeartbeats 8000000 in
set_option maxRecDepth 100000 in
theorem rule_mono (a : Option Addr) (len cap : Nat) (W : World) (hcap : len ≤ cap ∧ cap ≤ 9223372036854775807) (hr : IntRow W a len) :
    Calls Try.prog 4 #[.slice a len cap] W fun e w' => e = .returned (.bool true) ∧ Below W.heap.size W w' := by
  obtain ⟨m, hm, QN⟩ := keep_new a len cap hcap W hr
  have QN := hide QN
  clear hcap hr
  go_enter Try.func4, Try.ntmps4
  go_upto_region 3 with (first
    | (go_at_call 9; (with_reducible refine (QN.out).mono ?_); rintro en w1 ⟨rfl, hd⟩; (have HD := hide hd); (have hg1 := hd.lt); clear hd)
    | (go_at_call 10; (with_reducible refine (keep_policy _ HD.out).mono ?_); rintro en w2 ⟨⟨RL, di, ev, p, c, rfl, hL1, hL3, hOK, ⟨di0, di1⟩, ⟨ev0, ev1⟩, hrow, hc1, hc2, hpb⟩, hd, hr1⟩; (have HD := hide hd); (have HOK := hide hOK); (have HROW := hide hrow); (have HPB := hide (fun b off (hp : p = some ⟨b, off, none⟩) => (show b ≠ W.heap.size from (by have := hpb b off hp; omega)))); (have hg2 := hd.lt); clear hd hr1 hOK hrow hpb)
    | (go_at_call 11; (with_reducible refine (keep_event 1 ⟨by omega, by omega⟩ _ HD.out).mono ?_); rintro en w3 ⟨⟨e, Ae, rfl, hA1e, hA4e, hfre, hoke, howne⟩, hd, hr1⟩; (have HROW := hide (HROW.out.heap fun b off hp hl => .inr (hr1.block b hl (HPB.out b off hp)))); (have HD := hide hd); (have HOWe := hide howne); (have HFRe := hide hfre); (have HOKe := hide hoke); clear hd hr1 hfre hoke howne; (have GE0 := hide (new_at (w := w3.alloc (.cells #[.slice p RL.length c, .int .i64 di, .int .i64 ev] 24)) (.cells #[.string ⟨#[]⟩, .string ⟨#[]⟩, .string ⟨#[]⟩, .string ⟨#[]⟩, .int .i64 0, .int .i64 0, .int .i64 0, .int .i64 0, .int .i64 0, .slice none 0 0, .int .i64 0, .int .i64 0, .int .i64 0, .int .i64 0, .int .i64 0, .int .i64 0, .int .i64 0, .int .i64 0, .int .i64 0, .int .i64 0, .int .i64 0, .int .i64 0, .int .i64 0, .int .i64 0, .int .i64 0] 43) (g := w3.heap.size + 1) (by simp))))
    | (refine wpList_store_mid (by rfl) 43 (.tmp 5) (.tmp 15) (by rfl) (w3.heap.size + 1) 0 #[.string e.a1, .string e.a2, .string e.a3, .string e.a4, .int .i64 e.t1, .int .i64 e.t2, .int .i64 e.t3, .int .i64 e.am, .int .i64 e.po, .slice e.p e.n e.c, .int .i64 e.x, .int .i64 e.y, .int .i64 e.z, .int .i64 e.tm, .int .i64 e.mf, .int .i64 e.lw, .int .i64 e.b1, .int .i64 e.b2, .int .i64 e.b3, .int .i64 e.b4, .int .i64 e.b5, .int .i64 e.b6, .int .i64 e.lo, .int .i64 e.hi, .int .i64 e.ct] (by rfl) (by rfl) ?_ (by kernel_rfl) (by simp [Value.oneCell']) ?_; (focus exact there_row GE0.out 0 25 (by simp))))
  simp only [Act.put]
  have HV := hide (((below2 (w := w3) (.cells #[.slice p RL.length c, .int .i64 di, .int .i64 ev] 24) (.cells #[.string ⟨#[]⟩, .string ⟨#[]⟩, .string ⟨#[]⟩, .string ⟨#[]⟩, .int .i64 0, .int .i64 0, .int .i64 0, .int .i64 0, .int .i64 0, .slice none 0 0, .int .i64 0, .int .i64 0, .int .i64 0, .int .i64 0, .int .i64 0, .int .i64 0, .int .i64 0, .int .i64 0, .int .i64 0, .int .i64 0, .int .i64 0, .int .i64 0, .int .i64 0, .int .i64 0, .int .i64 0] 43)).trans ((sets_below (g := w3.heap.size + 1) [.string e.a1, .string e.a2, .string e.a3, .string e.a4, .int .i64 e.t1, .int .i64 e.t2, .int .i64 e.t3, .int .i64 e.am, .int .i64 e.po, .slice e.p e.n e.c, .int .i64 e.x, .int .i64 e.y, .int .i64 e.z, .int .i64 e.tm, .int .i64 e.mf, .int .i64 e.lw, .int .i64 e.b1, .int .i64 e.b2, .int .i64 e.b3, .int .i64 e.b4, .int .i64 e.b5, .int .i64 e.b6, .int .i64 e.lo, .int .i64 e.hi, .int .i64 e.ct] _ 0).mono (Nat.le_succ _))))
  have GP := hide ((sets_other (show w3.heap.size ≠ w3.heap.size + 1 by omega) [.string e.a1, .string e.a2, .string e.a3, .string e.a4, .int .i64 e.t1, .int .i64 e.t2, .int .i64 e.t3, .int .i64 e.am, .int .i64 e.po, .slice e.p e.n e.c, .int .i64 e.x, .int .i64 e.y, .int .i64 e.z, .int .i64 e.tm, .int .i64 e.mf, .int .i64 e.lw, .int .i64 e.b1, .int .i64 e.b2, .int .i64 e.b3, .int .i64 e.b4, .int .i64 e.b5, .int .i64 e.b6, .int .i64 e.lo, .int .i64 e.hi, .int .i64 e.ct] _ 0).trans (pair_alloc (heap_alloc_new w3 (.cells #[.slice p RL.length c, .int .i64 di, .int .i64 ev] 24)) (.cells #[.string ⟨#[]⟩, .string ⟨#[]⟩, .string ⟨#[]⟩, .string ⟨#[]⟩, .int .i64 0, .int .i64 0, .int .i64 0, .int .i64 0, .int .i64 0, .slice none 0 0, .int .i64 0, .int .i64 0, .int .i64 0, .int .i64 0, .int .i64 0, .int .i64 0, .int .i64 0, .int .i64 0, .int .i64 0, .int .i64 0, .int .i64 0, .int .i64 0, .int .i64 0, .int .i64 0, .int .i64 0] 43)))
  have GE := hide ((sets_heap [.string e.a1, .string e.a2, .string e.a3, .string e.a4, .int .i64 e.t1, .int .i64 e.t2, .int .i64 e.t3, .int .i64 e.am, .int .i64 e.po, .slice e.p e.n e.c, .int .i64 e.x, .int .i64 e.y, .int .i64 e.z, .int .i64 e.tm, .int .i64 e.mf, .int .i64 e.lw, .int .i64 e.b1, .int .i64 e.b2, .int .i64 e.b3, .int .i64 e.b4, .int .i64 e.b5, .int .i64 e.b6, .int .i64 e.lo, .int .i64 e.hi, .int .i64 e.ct] _ _ 0 GE0.out).trans (show _ = some (.cells #[.string e.a1, .string e.a2, .string e.a3, .string e.a4, .int .i64 e.t1, .int .i64 e.t2, .int .i64 e.t3, .int .i64 e.am, .int .i64 e.po, .slice e.p e.n e.c, .int .i64 e.x, .int .i64 e.y, .int .i64 e.z, .int .i64 e.tm, .int .i64 e.mf, .int .i64 e.lw, .int .i64 e.b1, .int .i64 e.b2, .int .i64 e.b3, .int .i64 e.b4, .int .i64 e.b5, .int .i64 e.b6, .int .i64 e.lo, .int .i64 e.hi, .int .i64 e.ct] 43 (0, 0)) from by kernel_rfl))
  have HROW := hide (HROW.out.keep HV.out)
  have hq1 : W.heap.size < w3.heap.size := HD.out.lt
  have HD := hide (HD.out.keep HV.out)
  clear HV HOWe GE0
  generalize ((w3.alloc (.cells #[.slice p RL.length c, .int .i64 di, .int .i64 ev] 24)).alloc (.cells #[.string ⟨#[]⟩, .string ⟨#[]⟩, .string ⟨#[]⟩, .string ⟨#[]⟩, .int .i64 0, .int .i64 0, .int .i64 0, .int .i64 0, .int .i64 0, .slice none 0 0, .int .i64 0, .int .i64 0, .int .i64 0, .int .i64 0, .int .i64 0, .int .i64 0, .int .i64 0, .int .i64 0, .int .i64 0, .int .i64 0, .int .i64 0, .int .i64 0, .int .i64 0, .int .i64 0, .int .i64 0] 43)).setCells (w3.heap.size + 1) 0 [.string e.a1, .string e.a2, .string e.a3, .string e.a4, .int .i64 e.t1, .int .i64 e.t2, .int .i64 e.t3, .int .i64 e.am, .int .i64 e.po, .slice e.p e.n e.c, .int .i64 e.x, .int .i64 e.y, .int .i64 e.z, .int .i64 e.tm, .int .i64 e.mf, .int .i64 e.lw, .int .i64 e.b1, .int .i64 e.b2, .int .i64 e.b3, .int .i64 e.b4, .int .i64 e.b5, .int .i64 e.b6, .int .i64 e.lo, .int .i64 e.hi, .int .i64 e.ct] = V at GP GE HROW HD ⊢
  generalize w3.heap.size = q1 at GP GE hq1 ⊢
  have hqV : q1 + 1 < V.heap.size := (Array.getElem?_eq_some_iff.1 GE.out).1
  have HPV := hide (fun b off (hp : p = some ⟨b, off, none⟩) => (show b < V.heap.size from by
    obtain ⟨-, h9 | ⟨b', off', hp', hc'⟩⟩ := HROW.out
    · omega
    · rw [hp] at hp'; injection hp' with hp'; injection hp' with e1 e2; subst e1; exact block_lt_of_cell (hc' 0 (by omega)).1))
  go_cut [6] from 6 to 25 (fun s6 wx => ∃ (r : Rl) (k6 : Nat), s6 = .pointer (some ⟨k6, 0, none⟩) ∧ r ∈ RL ∧ V.heap.size ≤ k6 ∧ Hid (wx.heap[k6]? = some (.cells #[.int .i64 r.m, .int .i64 r.p, .int .i64 r.f, .int .i64 r.d] 26 (0, 0))) ∧ Hid (Src W a m cap W.heap.size wx) ∧ Hid (Rolls W.heap.size V wx))
  case first =>
    obtain ⟨g, hgg⟩ : ∃ g, W.heap.size = g := ⟨_, rfl⟩
    rw [hgg] at HD HPB hq1 ⊢
    have hgV := HD.out.lt
    have hqg : q1 ≠ g := by omega
    have HWV := hide HD.out.low.size
    clear GE
    refine wp_region_inv2 (fun L a' w' => ∃ u : Nat → Value, a' = { tmps := #[.slice a len cap, undef, .bool false, .pointer (some ⟨g, 0, none⟩), .pointer (some ⟨q1, 0, none⟩), .pointer (some ⟨q1 + 1, 0, none⟩), u 6, undef, undef, undef, .slice a len cap, .pointer (some ⟨g, 0, none⟩), .pointer (some ⟨g, 0, none⟩), .agg #[.slice p RL.length c, .int .i64 di, .int .i64 ev], .pointer (some ⟨g, 0, none⟩), .agg #[.string e.a1, .string e.a2, .string e.a3, .string e.a4, .int .i64 e.t1, .int .i64 e.t2, .int .i64 e.t3, .int .i64 e.am, .int .i64 e.po, .slice e.p e.n e.c, .int .i64 e.x, .int .i64 e.y, .int .i64 e.z, .int .i64 e.tm, .int .i64 e.mf, .int .i64 e.lw, .int .i64 e.b1, .int .i64 e.b2, .int .i64 e.b3, .int .i64 e.b4, .int .i64 e.b5, .int .i64 e.b6, .int .i64 e.lo, .int .i64 e.hi, .int .i64 e.ct], u 16, u 17, u 18, u 19, u 20, u 21, u 22, u 23, u 24, undef, undef, undef, undef, undef, undef, undef, undef, undef, undef, undef, undef, undef, undef, undef, undef, undef, undef, undef, undef, undef, undef, undef, undef, undef, undef, undef, undef, undef, undef, undef, undef, undef, undef, undef, undef, undef, undef, undef, undef, undef, undef, undef, undef, undef, undef, undef, undef, undef, undef, undef, undef, undef, undef, undef, undef, undef, undef, undef, undef, undef, undef, undef, undef, undef, undef, undef, undef, undef, undef, undef], defers := [] } ∧ MonC W a m cap g V q1 RL di ev p c L u w') (by kernel_rfl) (by kernel_rfl) ?h0 ?hs ?hd
    case h0 =>
      exact ⟨fun _ => undef, rfl, { src := HD.out.drew, rol := Rolls.of_below (Below.refl _ _).drew, bp := GP.out, row := HROW.out.keep (Below.refl _ _).drew, f0 := fun e => Bool.noConfusion e, f1 := fun e => Bool.noConfusion e, f2 := fun e => Bool.noConfusion e, f3 := fun e => Bool.noConfusion e, f4 := fun e => Bool.noConfusion e, f5 := fun e => Bool.noConfusion e, f6 := fun e => Bool.noConfusion e, f7 := fun e => Bool.noConfusion e, f8 := fun e => Bool.noConfusion e, f9 := fun e => Bool.noConfusion e, f10 := fun e => Bool.noConfusion e }⟩
    case hs =>
      refine (Steps2.cons ?_ (Steps2.cons ?_ (Steps2.cons ?_ (Steps2.cons ?_ (Steps2.cons ?_ (Steps2.cons ?_ (Steps2.cons ?_ (Steps2.cons ?_ (Steps2.cons ?_ (Steps2.cons ?_ (Steps2.cons ?_ Steps2.nil)))))))))))
      · intro L a' x hL hcl hc hI K' hK
        obtain ⟨u, rfl, hC⟩ := hI
        have HK := hide hK
        have HC := hide hC
        clear hK hC hc
        go_simp
        exact HK.out _ _ ⟨fun s => if s = 16 then .pointer (some ⟨q1, 0, none⟩) else u s, rfl, { HC.out with f0 := fun _ => rfl }⟩
      · intro L a' x hL hcl hc hI K' hK
        obtain ⟨u, rfl, hC⟩ := hI
        have d0 : L 0 = true := hc ⟨0, .data⟩ (by simp) rfl
        have HK := hide hK
        have HC := hide hC
        clear hK hC hc
        have e16 := HC.out.f0 d0
        obtain ⟨m0, -, -, -, -, -⟩ := tri_cells HC.out.bp
        go_simp
        exact HK.out _ _ ⟨fun s => if s = 17 then .slice p RL.length c else u s, by simp [e16], { HC.out with f1 := fun _ => rfl }⟩
      · intro L a' x hL hcl hc hI K' hK
        obtain ⟨u, rfl, hC⟩ := hI
        have HK := hide hK
        have HC := hide hC
        clear hK hC hc
        go_simp
        exact HK.out _ _ ⟨fun s => if s = 18 then .pointer (some ⟨g, 0, none⟩) else u s, rfl, { HC.out with f2 := fun _ => rfl }⟩
      · intro L a' x hL hcl hc hI K' hK
        obtain ⟨u, rfl, hC⟩ := hI
        have HK := hide hK
        have HC := hide hC
        clear hK hC hc
        go_simp
        exact HK.out _ _ ⟨fun s => if s = 19 then .pointer (some ⟨q1, 0, none⟩) else u s, rfl, { HC.out with f3 := fun _ => rfl }⟩
      · intro L a' x hL hcl hc hI K' hK
        obtain ⟨u, rfl, hC⟩ := hI
        have d3 : L 3 = true := hc ⟨3, .data⟩ (by simp) rfl
        have HK := hide hK
        have HC := hide hC
        clear hK hC hc
        have e19 := HC.out.f3 d3
        obtain ⟨m0, -, -, -, -, -⟩ := tri_cells HC.out.bp
        go_simp
        exact HK.out _ _ ⟨fun s => if s = 20 then .slice p RL.length c else u s, by simp [e19], { HC.out with f4 := fun _ => rfl }⟩
      · intro L a' x hL hcl hc hI K' hK
        obtain ⟨u, rfl, hC⟩ := hI
        have d4 : L 4 = true := hc ⟨4, .data⟩ (by simp) rfl
        have HK := hide hK
        have HC := hide hC
        clear hK hC hc
        have e20 := HC.out.f4 d4
        go_simp
        exact HK.out _ _ ⟨fun s => if s = 21 then .int .i64 (RL.length : Nat) else u s, by simp [e20], { HC.out with f5 := fun _ => rfl }⟩
      · intro L a' x hL hcl hc hI K' hK
        obtain ⟨u, rfl, hC⟩ := hI
        have d2 : L 2 = true := hc ⟨2, .data⟩ (by simp) rfl
        have d5 : L 5 = true := hc ⟨5, .data⟩ (by simp) rfl
        have HK := hide hK
        have HC := hide hC
        clear hK hC hc
        have e18 := HC.out.f2 d2
        have e21 := HC.out.f5 d5
        go_simp
        go_at_call 20
        refine (keep_n W a m cap g (RL.length : Nat) ⟨by omega, by omega⟩ x HC.out.src).mono ?_
        rintro e y ⟨⟨z, rfl, z0, z1⟩, hd1, hr1⟩
        obtain ⟨j, rfl⟩ : ∃ j : Nat, z = (j : Int) := ⟨z.toNat, by omega⟩
        exact HK.out _ _ ⟨fun s => if s = 22 then .int .i64 (j : Nat) else u s, by simp [e18, e21], { (HC.out.rolls hgV hqg HPB.out hd1 hr1) with f6 := fun _ => ⟨j, rfl, by omega⟩ }⟩
      · intro L a' x hL hcl hc hI K' hK
        obtain ⟨u, rfl, hC⟩ := hI
        have d1 : L 1 = true := hc ⟨1, .data⟩ (by simp) rfl
        have d6 : L 6 = true := hc ⟨6, .data⟩ (by simp) rfl
        have HK := hide hK
        have HC := hide hC
        clear hK hC hc
        have e17 := HC.out.f1 d1
        obtain ⟨j, e22, hj⟩ := HC.out.f6 d6
        obtain ⟨-, h9 | ⟨b, off, hp, hc'⟩⟩ := HC.out.row
        · omega
        clear hc'
        rw [hp] at e17
        have HP := hide hp
        clear hp
        have hj' : (j : Int) < (RL.length : Int) := by omega
        go_simp
        exact HK.out _ _ ⟨fun s => if s = 23 then .pointer (some ⟨b, off + j * 4, none⟩) else u s, by simp [e17, e22, hj, hj'], { HC.out with f7 := fun _ => ⟨j, b, off, HP.out, rfl, hj⟩ }⟩
      · intro L a' x hL hcl hc hI K' hK
        obtain ⟨u, rfl, hC⟩ := hI
        have d7 : L 7 = true := hc ⟨7, .data⟩ (by simp) rfl
        have HK := hide hK
        have HC := hide hC
        clear hK hC hc
        obtain ⟨j, b, off, hp, e23, hj⟩ := HC.out.f7 d7
        obtain ⟨-, h9 | ⟨b', off', hp', hc'⟩⟩ := HC.out.row
        · omega
        rw [hp] at hp'
        injection hp' with hp'
        injection hp' with e1 e2
        subst e1
        subst e2
        obtain ⟨x0, x1, x2, x3⟩ := hc' j hj
        have hmem : RL[j] ∈ RL := List.getElem_mem _
        generalize RL[j] = r at x0 x1 x2 x3 hmem
        have HP := hide hp
        clear hp hc'
        go_simp
        exact HK.out _ _ ⟨fun s => if s = 24 then .agg #[.int .i64 r.m, .int .i64 r.p, .int .i64 r.f, .int .i64 r.d] else u s, by simp [e23, x0, x1, x2, x3], { HC.out with f8 := fun _ => ⟨r, hmem, rfl⟩ }⟩
      · intro L a' x hL hcl hc hI K' hK
        obtain ⟨u, rfl, hC⟩ := hI
        have n10 : L 10 = false := by cases h : L 10; rfl; exact absurd ((fun h => (hcl 10 _ rfl h ⟨9, .data⟩ (by simp) rfl)) h) (by rw [hL]; simp)
        have HK := hide hK
        have HC := hide hC
        clear hK hC hc
        have hsz := HC.out.rol.size
        have hlt := HC.out.src.lt
        go_simp
        exact HK.out _ _ ⟨fun s => if s = 6 then .pointer (some ⟨x.heap.size, 0, none⟩) else u s, rfl, { (HC.out.rolls hgV hqg HPB.out (HC.out.src.alloc _) (Rolls.of_below (below1 _))) with f9 := fun _ => ⟨x.heap.size, rfl, hsz, fun _ => heap_alloc_new _ _⟩, f10 := fun h => absurd (show L 10 = true from h) (by rw [n10]; simp) }⟩
      · intro L a' x hL hcl hc hI K' hK
        obtain ⟨u, rfl, hC⟩ := hI
        have d9 : L 9 = true := hc ⟨9, .data⟩ (by simp) rfl
        have d8 : L 8 = true := hc ⟨8, .data⟩ (by simp) rfl
        have d6 : L 6 = true := hc ⟨6, .chain⟩ (by simp) rfl
        have HK := hide hK
        have HC := hide hC
        clear hK hC hc
        obtain ⟨k, e6, hk, hz⟩ := HC.out.f9 d9
        obtain ⟨r, hmem, e24⟩ := HC.out.f8 d8
        have HZ := hide (hz hL)
        have hlt := HC.out.src.lt
        refine wp_store_mid 26 (.tmp 6) (.tmp 24) rfl k 0 #[.int .i64 r.m, .int .i64 r.p, .int .i64 r.f, .int .i64 r.d] (by simpa [Act.eval] using e6) (by simpa [Act.eval] using e24) (there_row HZ.out 0 4 (by simp)) (by kernel_rfl) (by simp [Value.oneCell']) ?_
        have HS := hide ((sets_heap [.int .i64 r.m, .int .i64 r.p, .int .i64 r.f, .int .i64 r.d] x _ 0 HZ.out).trans (show _ = some (.cells #[.int .i64 r.m, .int .i64 r.p, .int .i64 r.f, .int .i64 r.d] 26 (0, 0)) from by kernel_rfl))
        have HO := hide (fun k' (hk' : k' ≠ k) => sets_other hk' [.int .i64 r.m, .int .i64 r.p, .int .i64 r.f, .int .i64 r.d] x 0)
        have HBL := hide (sets_below (g := k) [.int .i64 r.m, .int .i64 r.p, .int .i64 r.f, .int .i64 r.d] x 0)
        exact HK.out _ _ ⟨u, rfl, { HC.out with src := HC.out.src.keepB HBL.out (by omega) (by have := HC.out.src.low.size; have := HWV.out; omega), rol := HC.out.rol.sets _ _ hk, bp := (HO.out _ (by omega)).trans HC.out.bp, row := HC.out.row.heap fun b off hb hl => .inr (HO.out b (by have := HPV.out b off hb; omega)), f9 := fun _ => ⟨k, e6, hk, fun h => Bool.noConfusion h⟩, f10 := fun _ => ⟨r, k, hmem, e6, hk, HS.out⟩ }⟩
    case hd =>
      rintro L a' x hall ⟨u, rfl, hC⟩
      obtain ⟨r, k6, hmem, e6, hk6, hb6⟩ := hC.f10 (hall 10 (by decide))
      have HB6 := hide hb6
      have HS6 := hide hC.src
      have HR6 := hide hC.rol
      clear hC hall hb6
      rw [e6]
      subst hgg
      go_wp2_with fail
      go_meet
      exact ⟨r, k6, rfl, hmem, hk6, HB6, HS6, HR6⟩
  case rest =>
    obtain ⟨r, k6, rfl, hmem, hk6, B6, HS, HRL⟩ := hcut
    have hgV := HS.out.lt
    have hmr := HOK.out r hmem
    obtain ⟨r0, r1, r2, r3, r4, r5, r6, r7⟩ := hmr
    have GP := hide (HRL.out.blk GP.out (by omega))
    have GE := hide (HRL.out.blk GE.out (by omega))
    have HROW := hide (HROW.out.heap fun b off hp hl => .inr (HRL.out.block b hl (HPB.out b off hp)))
    clear HRL HPV
    generalize wc = V4 at B6 HS GP GE HROW hgV ⊢
    have hk6 : k6 < V4.heap.size := (Array.getElem?_eq_some_iff.1 B6.out).1
    go_upto_region 4 with fail
    go_cut [7] from 7 to 44 (fun s7 wx => ∃ (k : Rl) (k7 : Nat), s7 = .pointer (some ⟨k7, 0, none⟩) ∧ (k.m ≤ r.m ∧ k.p ≤ r.p ∧ r.f ≤ k.f) ∧ Hid (wx.heap[k7]? = some (.cells #[.int .i64 k.m, .int .i64 k.p, .int .i64 k.f, .int .i64 k.d] 26 (0, 0))) ∧ Hid (Src W a m cap W.heap.size wx) ∧ Hid (Rolls W.heap.size V4 wx))
    case first =>
      obtain ⟨g, hgg⟩ : ∃ g, W.heap.size = g := ⟨_, rfl⟩
      have hkg : k6 ≠ g := by omega
      rw [hgg] at HS hgV ⊢
      have HWV := hide HS.out.low.size
      clear GE GP HROW HPB
      refine wp_region_inv2 (fun L a' w' => ∃ u : Nat → Value, a' = { tmps := #[.slice a len cap, undef, .bool false, .pointer (some ⟨g, 0, none⟩), .pointer (some ⟨q1, 0, none⟩), .pointer (some ⟨q1 + 1, 0, none⟩), .pointer (some ⟨k6, 0, none⟩), u 7, u8, u9, u10, u11, u12, u13, u14, u15, u16, u17, u18, u19, u20, u21, u22, u23, u24, u 25, u 26, u 27, u 28, u 29, u 30, u 31, u 32, u 33, u 34, u 35, u 36, u 37, u 38, u 39, u 40, u 41, u 42, u 43, undef, undef, undef, undef, undef, undef, undef, undef, undef, undef, undef, undef, undef, undef, undef, undef, undef, undef, undef, undef, undef, undef, undef, undef, undef, undef, undef, undef, undef, undef, undef, undef, undef, undef, undef, undef, undef, undef, undef, undef, undef, undef, undef, undef, undef, undef, undef, undef, undef, undef, undef, undef], defers := [] } ∧ MonD W a m cap g V4 k6 r L u w') (by kernel_rfl) (by kernel_rfl) ?h0 ?hs ?hd
      case h0 =>
        exact ⟨fun s => if s = 7 then u7 else if s = 25 then u25 else undef, rfl, { src := HS.out.drew, rol := Rolls.of_below (Below.refl _ _).drew, b6 := B6.out, f0 := fun e => Bool.noConfusion e, f1 := fun e => Bool.noConfusion e, f2 := fun e => Bool.noConfusion e, f3 := fun e => Bool.noConfusion e, f4 := fun e => Bool.noConfusion e, f5 := fun e => Bool.noConfusion e, f6 := fun e => Bool.noConfusion e, f7 := fun e => Bool.noConfusion e, f8 := fun e => Bool.noConfusion e, f9 := fun e => Bool.noConfusion e, f10 := fun e => Bool.noConfusion e, f11 := fun e => Bool.noConfusion e, f12 := fun e => Bool.noConfusion e, f13 := fun e => Bool.noConfusion e, f14 := fun e => Bool.noConfusion e, f15 := fun e => Bool.noConfusion e, f16 := fun e => Bool.noConfusion e, f17 := fun e => Bool.noConfusion e, f18 := fun e => Bool.noConfusion e, f19 := fun e => Bool.noConfusion e, f20 := fun e => Bool.noConfusion e }⟩
      case hs =>
        refine (Steps2.cons ?_ (Steps2.cons ?_ (Steps2.cons ?_ (Steps2.cons ?_ (Steps2.cons ?_ (Steps2.cons ?_ (Steps2.cons ?_ (Steps2.cons ?_ (Steps2.cons ?_ (Steps2.cons ?_ (Steps2.cons ?_ (Steps2.cons ?_ (Steps2.cons ?_ (Steps2.cons ?_ (Steps2.cons ?_ (Steps2.cons ?_ (Steps2.cons ?_ (Steps2.cons ?_ (Steps2.cons ?_ (Steps2.cons ?_ (Steps2.cons ?_ Steps2.nil)))))))))))))))))))))
        · intro L a' x hL hcl hc hI K' hK
          obtain ⟨u, rfl, hC⟩ := hI
          have HK := hide hK
          have HC := hide hC
          clear hK hC hc
          go_simp
          exact HK.out _ _ ⟨fun s => if s = 25 then .pointer (some ⟨k6, 0, none⟩) else u s, rfl, { HC.out with f0 := fun _ => rfl }⟩
        · intro L a' x hL hcl hc hI K' hK
          obtain ⟨u, rfl, hC⟩ := hI
          have d0 : L 0 = true := hc ⟨0, .data⟩ (by simp) rfl
          have HK := hide hK
          have HC := hide hC
          clear hK hC hc
          have e25 := HC.out.f0 d0
          have m0 : x.cell? ⟨k6, 0, none⟩ = some (.int .i64 r.m) := boxed_at HC.out.b6 rfl
          go_simp
          exact HK.out _ _ ⟨fun s => if s = 26 then .int .i64 r.m else u s, by simp [e25], { HC.out with f1 := fun _ => rfl }⟩
        · intro L a' x hL hcl hc hI K' hK
          obtain ⟨u, rfl, hC⟩ := hI
          have HK := hide hK
          have HC := hide hC
          clear hK hC hc
          go_simp
          exact HK.out _ _ ⟨fun s => if s = 27 then .pointer (some ⟨g, 0, none⟩) else u s, rfl, { HC.out with f2 := fun _ => rfl }⟩
        · intro L a' x hL hcl hc hI K' hK
          obtain ⟨u, rfl, hC⟩ := hI
          have d2 : L 2 = true := hc ⟨2, .data⟩ (by simp) rfl
          have HK := hide hK
          have HC := hide hC
          clear hK hC hc
          have e27 := HC.out.f2 d2
          go_simp
          go_at_call 20
          refine (keep_n W a m cap g 50 ⟨by omega, by omega⟩ x HC.out.src).mono ?_
          rintro e y ⟨⟨z, rfl, z0, z1⟩, hd1, hr1⟩
          exact HK.out _ _ ⟨fun s => if s = 28 then .int .i64 z else u s, by simp [e27], { (HC.out.rolls hgV hkg hd1 hr1) with f3 := fun _ => ⟨z, rfl, by omega, by omega⟩ }⟩
        · intro L a' x hL hcl hc hI K' hK
          obtain ⟨u, rfl, hC⟩ := hI
          have d1 : L 1 = true := hc ⟨1, .data⟩ (by simp) rfl
          have d3 : L 3 = true := hc ⟨3, .data⟩ (by simp) rfl
          have HK := hide hK
          have HC := hide hC
          clear hK hC hc
          have e26 := HC.out.f1 d1
          obtain ⟨z, e28, z0, z1⟩ := HC.out.f3 d3
          have hw : IntKind.i64.wrap (r.m - z) = r.m - z := by rw [IntKind.wrap_i64]; omega
          go_simp
          exact HK.out _ _ ⟨fun s => if s = 29 then .int .i64 (r.m - z) else u s, by simp [e26, e28, hw], { HC.out with f4 := fun _ => ⟨r.m - z, rfl, by omega, by omega⟩ }⟩
        · intro L a' x hL hcl hc hI K' hK
          obtain ⟨u, rfl, hC⟩ := hI
          have HK := hide hK
          have HC := hide hC
          clear hK hC hc
          go_simp
          exact HK.out _ _ ⟨fun s => if s = 30 then .pointer (some ⟨k6, 1, none⟩) else u s, rfl, { HC.out with f5 := fun _ => rfl }⟩
        · intro L a' x hL hcl hc hI K' hK
          obtain ⟨u, rfl, hC⟩ := hI
          have d5 : L 5 = true := hc ⟨5, .data⟩ (by simp) rfl
          have HK := hide hK
          have HC := hide hC
          clear hK hC hc
          have e30 := HC.out.f5 d5
          have m0 : x.cell? ⟨k6, 1, none⟩ = some (.int .i64 r.p) := boxed_at HC.out.b6 rfl
          go_simp
          exact HK.out _ _ ⟨fun s => if s = 31 then .int .i64 r.p else u s, by simp [e30], { HC.out with f6 := fun _ => rfl }⟩
        · intro L a' x hL hcl hc hI K' hK
          obtain ⟨u, rfl, hC⟩ := hI
          have HK := hide hK
          have HC := hide hC
          clear hK hC hc
          go_simp
          exact HK.out _ _ ⟨fun s => if s = 32 then .pointer (some ⟨g, 0, none⟩) else u s, rfl, { HC.out with f7 := fun _ => rfl }⟩
        · intro L a' x hL hcl hc hI K' hK
          obtain ⟨u, rfl, hC⟩ := hI
          have d7 : L 7 = true := hc ⟨7, .data⟩ (by simp) rfl
          have d3 : L 3 = true := hc ⟨3, .chain⟩ (by simp) rfl
          have HK := hide hK
          have HC := hide hC
          clear hK hC hc
          have e32 := HC.out.f7 d7
          go_simp
          go_at_call 20
          refine (keep_n W a m cap g 3 ⟨by omega, by omega⟩ x HC.out.src).mono ?_
          rintro e y ⟨⟨z, rfl, z0, z1⟩, hd1, hr1⟩
          exact HK.out _ _ ⟨fun s => if s = 33 then .int .i64 z else u s, by simp [e32], { (HC.out.rolls hgV hkg hd1 hr1) with f8 := fun _ => ⟨z, rfl, by omega, by omega⟩ }⟩
        · intro L a' x hL hcl hc hI K' hK
          obtain ⟨u, rfl, hC⟩ := hI
          have d6 : L 6 = true := hc ⟨6, .data⟩ (by simp) rfl
          have d8 : L 8 = true := hc ⟨8, .data⟩ (by simp) rfl
          have HK := hide hK
          have HC := hide hC
          clear hK hC hc
          have e31 := HC.out.f6 d6
          obtain ⟨z, e33, z0, z1⟩ := HC.out.f8 d8
          have hw : IntKind.i64.wrap (r.p - z) = r.p - z := by rw [IntKind.wrap_i64]; omega
          go_simp
          exact HK.out _ _ ⟨fun s => if s = 34 then .int .i64 (r.p - z) else u s, by simp [e31, e33, hw], { HC.out with f9 := fun _ => ⟨r.p - z, rfl, by omega, by omega⟩ }⟩
        · intro L a' x hL hcl hc hI K' hK
          obtain ⟨u, rfl, hC⟩ := hI
          have d9 : L 9 = true := hc ⟨9, .data⟩ (by simp) rfl
          have HK := hide hK
          have HC := hide hC
          clear hK hC hc
          obtain ⟨z, e34, z0, z1⟩ := HC.out.f9 d9
          go_simp
          exact HK.out _ _ ⟨fun s => if s = 35 then .int .i64 (if 1 < z then z else 1) else u s, by simp [e34], { HC.out with f10 := fun _ => ⟨_, rfl, by split <;> omega, by split <;> omega⟩ }⟩
        · intro L a' x hL hcl hc hI K' hK
          obtain ⟨u, rfl, hC⟩ := hI
          have HK := hide hK
          have HC := hide hC
          clear hK hC hc
          go_simp
          exact HK.out _ _ ⟨fun s => if s = 36 then .pointer (some ⟨k6, 2, none⟩) else u s, rfl, { HC.out with f11 := fun _ => rfl }⟩
        · intro L a' x hL hcl hc hI K' hK
          obtain ⟨u, rfl, hC⟩ := hI
          have d11 : L 11 = true := hc ⟨11, .data⟩ (by simp) rfl
          have HK := hide hK
          have HC := hide hC
          clear hK hC hc
          have e36 := HC.out.f11 d11
          have m0 : x.cell? ⟨k6, 2, none⟩ = some (.int .i64 r.f) := boxed_at HC.out.b6 rfl
          go_simp
          exact HK.out _ _ ⟨fun s => if s = 37 then .int .i64 r.f else u s, by simp [e36], { HC.out with f12 := fun _ => rfl }⟩
        · intro L a' x hL hcl hc hI K' hK
          obtain ⟨u, rfl, hC⟩ := hI
          have HK := hide hK
          have HC := hide hC
          clear hK hC hc
          go_simp
          exact HK.out _ _ ⟨fun s => if s = 38 then .pointer (some ⟨g, 0, none⟩) else u s, rfl, { HC.out with f13 := fun _ => rfl }⟩
        · intro L a' x hL hcl hc hI K' hK
          obtain ⟨u, rfl, hC⟩ := hI
          have d13 : L 13 = true := hc ⟨13, .data⟩ (by simp) rfl
          have d8 : L 8 = true := hc ⟨8, .chain⟩ (by simp) rfl
          have HK := hide hK
          have HC := hide hC
          clear hK hC hc
          have e38 := HC.out.f13 d13
          go_simp
          go_at_call 20
          refine (keep_n W a m cap g 50 ⟨by omega, by omega⟩ x HC.out.src).mono ?_
          rintro e y ⟨⟨z, rfl, z0, z1⟩, hd1, hr1⟩
          exact HK.out _ _ ⟨fun s => if s = 39 then .int .i64 z else u s, by simp [e38], { (HC.out.rolls hgV hkg hd1 hr1) with f14 := fun _ => ⟨z, rfl, by omega, by omega⟩ }⟩
        · intro L a' x hL hcl hc hI K' hK
          obtain ⟨u, rfl, hC⟩ := hI
          have d12 : L 12 = true := hc ⟨12, .data⟩ (by simp) rfl
          have d14 : L 14 = true := hc ⟨14, .data⟩ (by simp) rfl
          have HK := hide hK
          have HC := hide hC
          clear hK hC hc
          have e37 := HC.out.f12 d12
          obtain ⟨z, e39, z0, z1⟩ := HC.out.f14 d14
          have hw : IntKind.i64.wrap (r.f + z) = r.f + z := by rw [IntKind.wrap_i64]; omega
          go_simp
          exact HK.out _ _ ⟨fun s => if s = 40 then .int .i64 (r.f + z) else u s, by simp [e37, e39, hw], { HC.out with f15 := fun _ => ⟨r.f + z, rfl, by omega, by omega⟩ }⟩
        · intro L a' x hL hcl hc hI K' hK
          obtain ⟨u, rfl, hC⟩ := hI
          have HK := hide hK
          have HC := hide hC
          clear hK hC hc
          go_simp
          exact HK.out _ _ ⟨fun s => if s = 41 then .pointer (some ⟨k6, 3, none⟩) else u s, rfl, { HC.out with f16 := fun _ => rfl }⟩
        · intro L a' x hL hcl hc hI K' hK
          obtain ⟨u, rfl, hC⟩ := hI
          have d16 : L 16 = true := hc ⟨16, .data⟩ (by simp) rfl
          have HK := hide hK
          have HC := hide hC
          clear hK hC hc
          have e41 := HC.out.f16 d16
          have m0 : x.cell? ⟨k6, 3, none⟩ = some (.int .i64 r.d) := boxed_at HC.out.b6 rfl
          go_simp
          exact HK.out _ _ ⟨fun s => if s = 42 then .int .i64 r.d else u s, by simp [e41], { HC.out with f17 := fun _ => rfl }⟩
        · intro L a' x hL hcl hc hI K' hK
          obtain ⟨u, rfl, hC⟩ := hI
          have d4 : L 4 = true := hc ⟨4, .data⟩ (by simp) rfl
          have d10 : L 10 = true := hc ⟨10, .data⟩ (by simp) rfl
          have d15 : L 15 = true := hc ⟨15, .data⟩ (by simp) rfl
          have d17 : L 17 = true := hc ⟨17, .data⟩ (by simp) rfl
          have HK := hide hK
          have HC := hide hC
          clear hK hC hc
          obtain ⟨z4, e29, p0, p1⟩ := HC.out.f4 d4
          obtain ⟨z10, e35, p2, p3⟩ := HC.out.f10 d10
          obtain ⟨z15, e40, p4, p5⟩ := HC.out.f15 d15
          have e42 := HC.out.f17 d17
          go_simp
          exact HK.out _ _ ⟨fun s => if s = 43 then .agg #[.int .i64 z4, .int .i64 z10, .int .i64 z15, .int .i64 r.d] else u s, by simp [e29, e35, e40, e42], { HC.out with f18 := fun _ => ⟨⟨z4, z10, z15, r.d⟩, ⟨p1, p3, p4⟩, rfl⟩ }⟩
        · intro L a' x hL hcl hc hI K' hK
          obtain ⟨u, rfl, hC⟩ := hI
          have n20 : L 20 = false := by cases h : L 20; rfl; exact absurd ((fun h => (hcl 20 _ rfl h ⟨19, .data⟩ (by simp) rfl)) h) (by rw [hL]; simp)
          have HK := hide hK
          have HC := hide hC
          clear hK hC hc
          have hsz := HC.out.rol.size
          have hlt := HC.out.src.lt
          go_simp
          exact HK.out _ _ ⟨fun s => if s = 7 then .pointer (some ⟨x.heap.size, 0, none⟩) else u s, rfl, { (HC.out.rolls hgV hkg (HC.out.src.alloc _) (Rolls.of_below (below1 _))) with f19 := fun _ => ⟨x.heap.size, rfl, hsz, fun _ => heap_alloc_new _ _⟩, f20 := fun h => absurd (show L 20 = true from h) (by rw [n20]; simp) }⟩
        · intro L a' x hL hcl hc hI K' hK
          obtain ⟨u, rfl, hC⟩ := hI
          have d19 : L 19 = true := hc ⟨19, .data⟩ (by simp) rfl
          have d18 : L 18 = true := hc ⟨18, .data⟩ (by simp) rfl
          have d14 : L 14 = true := hc ⟨14, .chain⟩ (by simp) rfl
          have HK := hide hK
          have HC := hide hC
          clear hK hC hc
          obtain ⟨k, e7, hk, hz⟩ := HC.out.f19 d19
          obtain ⟨wk, hwk, e43⟩ := HC.out.f18 d18
          have HZ := hide (hz hL)
          have hlt := HC.out.src.lt
          refine wp_store_mid 26 (.tmp 7) (.tmp 43) rfl k 0 #[.int .i64 wk.m, .int .i64 wk.p, .int .i64 wk.f, .int .i64 wk.d] (by simpa [Act.eval] using e7) (by simpa [Act.eval] using e43) (there_row HZ.out 0 4 (by simp)) (by kernel_rfl) (by simp [Value.oneCell']) ?_
          have HS := hide ((sets_heap [.int .i64 wk.m, .int .i64 wk.p, .int .i64 wk.f, .int .i64 wk.d] x _ 0 HZ.out).trans (show _ = some (.cells #[.int .i64 wk.m, .int .i64 wk.p, .int .i64 wk.f, .int .i64 wk.d] 26 (0, 0)) from by kernel_rfl))
          have HO := hide (fun k' (hk' : k' ≠ k) => sets_other hk' [.int .i64 wk.m, .int .i64 wk.p, .int .i64 wk.f, .int .i64 wk.d] x 0)
          have HBL := hide (sets_below (g := k) [.int .i64 wk.m, .int .i64 wk.p, .int .i64 wk.f, .int .i64 wk.d] x 0)
          exact HK.out _ _ ⟨u, rfl, { HC.out with src := HC.out.src.keepB HBL.out (by omega) (by have := HC.out.src.low.size; have := HWV.out; omega), rol := HC.out.rol.sets _ _ hk, b6 := (HO.out _ (by omega)).trans HC.out.b6, f19 := fun _ => ⟨k, e7, hk, fun h => Bool.noConfusion h⟩, f20 := fun _ => ⟨wk, k, hwk, e7, hk, HS.out⟩ }⟩
      case hd =>
        rintro L a' x hall ⟨u, rfl, hC⟩
        obtain ⟨k, k7, hk, e7, hk7, hb7⟩ := hC.f20 (hall 20 (by decide))
        have HB7 := hide hb7
        have HS7 := hide hC.src
        have HR7 := hide hC.rol
        clear hC hall hb7
        rw [e7]
        subst hgg
        go_wp2_with fail
        go_meet
        exact ⟨k, k7, rfl, hk, HB7, HS7, HR7⟩
    case rest =>
      obtain ⟨k, k7, rfl, hk, B7, HS, HRL⟩ := hcut
      have B6 := hide (HRL.out.blk B6.out (by omega))
      have GP := hide (HRL.out.blk GP.out (by omega))
      have GE := hide (HRL.out.blk GE.out (by omega))
      have HROW := hide (HROW.out.heap fun b off hp hl => .inr (HRL.out.block b hl (HPB.out b off hp)))
      have HL := hide HS.out.low
      clear HRL HS HPB
      generalize wc = V5 at B6 B7 HL GP GE HROW ⊢
      have hvE := vE_ok hL1 hL3 ⟨di0, di1⟩ ⟨ev0, ev1⟩ HOK.out
      have hlv : levF RL di ev e = levN RL e RL.length := by unfold levF; rw [if_pos hvE]
      have QL := hide (fun V hV => rule_level RL di ev p RL.length c (by omega) e V hV)
      have hle := levF_le RL di ev e
      rw [hlv] at QL hle
      have HTOP := hide (fun j (h1 : j < RL.length) h2 => levN_top RL e RL.length j h1 h2)
      have HIS := hide (fun j => levN_is RL e RL.length j)
      generalize levN RL e RL.length = lv at QL hle HTOP HIS
      clear hvE hlv
      have QR := hide (fun V => rule_meets r e V)
      have QK := hide (fun V => rule_meets k e V)
      have QAW := hide (fun V => rule_awake V)
      have hW := hide (meets_weak (e := e) hk.1 hk.2.1 hk.2.2)
      generalize meetsB r e = b1 at QR hW
      generalize meetsB k e = b2 at QK hW
      go_upto_region 5 with fail
      go_cut [52] from 44 to 52 (fun s52 wx => s52 = .bool false ∧ Hid (Below V5.heap.size V5 wx))
      case first =>
        obtain ⟨c60, c61, c62, c63⟩ := one_cells B6.out
        cases b1
        · go_wp2_with (first
            | (refine wpList_load_rowG ?_ 43 (.tmp 5) (by rfl) (q1 + 1) (by rfl) 43 #[.string e.a1, .string e.a2, .string e.a3, .string e.a4, .int .i64 e.t1, .int .i64 e.t2, .int .i64 e.t3, .int .i64 e.am, .int .i64 e.po, .slice e.p e.n e.c, .int .i64 e.x, .int .i64 e.y, .int .i64 e.z, .int .i64 e.tm, .int .i64 e.mf, .int .i64 e.lw, .int .i64 e.b1, .int .i64 e.b2, .int .i64 e.b3, .int .i64 e.b4, .int .i64 e.b5, .int .i64 e.b6, .int .i64 e.lo, .int .i64 e.hi, .int .i64 e.ct] (0, 0) _ ?_ Try.underlying43 rfl (by kernel_rfl) ?_; (focus rfl); (focus exact GE.out))
            | (go_at_call 17; (with_reducible refine (QR.out _).mono ?_); rintro en v1 ⟨rfl, hb⟩))
          go_meet
          exact ⟨rfl, hide hb⟩
        · obtain rfl := hW.out rfl
          go_wp2_with (first
            | (refine wpList_load_rowG ?_ 43 (.tmp 5) (by rfl) (q1 + 1) (by rfl) 43 #[.string e.a1, .string e.a2, .string e.a3, .string e.a4, .int .i64 e.t1, .int .i64 e.t2, .int .i64 e.t3, .int .i64 e.am, .int .i64 e.po, .slice e.p e.n e.c, .int .i64 e.x, .int .i64 e.y, .int .i64 e.z, .int .i64 e.tm, .int .i64 e.mf, .int .i64 e.lw, .int .i64 e.b1, .int .i64 e.b2, .int .i64 e.b3, .int .i64 e.b4, .int .i64 e.b5, .int .i64 e.b6, .int .i64 e.lo, .int .i64 e.hi, .int .i64 e.ct] (0, 0) _ ?_ Try.underlying43 rfl (by kernel_rfl) ?_; (focus rfl); (focus (first | exact GE.out | exact GE2.out)))
            | (go_at_call 17; (with_reducible refine (QR.out _).mono ?_); rintro en v1 ⟨rfl, hb⟩; (have GE2 := hide ((hb.block _ (Array.getElem?_eq_some_iff.1 GE.out).1).trans GE.out)); (have B72 := hide ((hb.block _ (Array.getElem?_eq_some_iff.1 B7.out).1).trans B7.out)); (obtain ⟨c70, c71, c72, c73⟩ := one_cells B72.out); (have HB1 := hide hb); clear hb)
            | (go_at_call 17; (with_reducible refine (QK.out _).mono ?_); rintro en v2 ⟨rfl, hb⟩))
          go_meet
          exact ⟨rfl, hide (HB1.out.trans (hb.mono HB1.out.size))⟩
      case rest =>
        obtain ⟨rfl, HB⟩ := hcut
        have GP := hide ((HB.out.block _ (Array.getElem?_eq_some_iff.1 GP.out).1).trans GP.out)
        have GE := hide ((HB.out.block _ (Array.getElem?_eq_some_iff.1 GE.out).1).trans GE.out)
        have HROW := hide (HROW.out.keep HB.out)
        have HL := hide (HL.out.trans (HB.out.mono HL.out.size))
        clear HB B6 B7 QR QK hW
        generalize wc = V6 at HL GP GE HROW ⊢
        obtain ⟨c0, c1, c2, -, -, -⟩ := tri_cells GP.out
        go_upto_region 8 with (first
          | (refine wpList_load_rowG ?_ 43 (.tmp 5) (by rfl) (q1 + 1) (by rfl) 43 #[.string e.a1, .string e.a2, .string e.a3, .string e.a4, .int .i64 e.t1, .int .i64 e.t2, .int .i64 e.t3, .int .i64 e.am, .int .i64 e.po, .slice e.p e.n e.c, .int .i64 e.x, .int .i64 e.y, .int .i64 e.z, .int .i64 e.tm, .int .i64 e.mf, .int .i64 e.lw, .int .i64 e.b1, .int .i64 e.b2, .int .i64 e.b3, .int .i64 e.b4, .int .i64 e.b5, .int .i64 e.b6, .int .i64 e.lo, .int .i64 e.hi, .int .i64 e.ct] (0, 0) _ ?_ Try.underlying43 rfl (by kernel_rfl) ?_; (focus rfl); (focus exact GE.out))
          | (go_at_call 15; (with_reducible refine (QL.out _ HROW.out).mono ?_); rintro en v1 ⟨rfl, hb⟩; (have GP2 := hide ((hb.block _ (Array.getElem?_eq_some_iff.1 GP.out).1).trans GP.out)); (have GE2 := hide ((hb.block _ (Array.getElem?_eq_some_iff.1 GE.out).1).trans GE.out)); (have HROW2 := hide (HROW.out.keep hb)); (have HL2 := hide (HL.out.trans (hb.mono HL.out.size))); clear hb))
        clear c0 c1 c2 GP GE HROW HL
        generalize v1 = V7 at GP2 GE2 HROW2 HL2 ⊢
        have ME := hide (fun W (h : ∃ p, W = more V7 p) => show W.heap[q1 + 1]? = _ from by obtain ⟨q, rfl⟩ := h; exact heap_more GE2.out q)
        have mp0 := fun p : More => cell_more (tri_cells GP2.out).1 p
        have l1 : decide ((RL.length : Int) < (lv : Int)) = false := decide_eq_false (by omega)
        have l2 : decide (RL.length < lv) = false := decide_eq_false (by omega)
        have l0 : decide ((lv : Int) < 0) = false := decide_eq_false (by omega)
        go_cut [79] from 56 to 79 (fun s79 wx => s79 = .bool false ∧ Hid (Below V7.heap.size V7 wx))
        case first =>
          rcases Nat.eq_zero_or_pos lv with h0 | h0
          · have l3 : decide ((0 : Int) < (lv : Int)) = false := decide_eq_false (by omega)
            have l4 : decide (0 < lv) = false := decide_eq_false (by omega)
            clear hle h0
            refine wp_region_grown (by kernel_rfl) (by kernel_rfl) ?_
            repeat (go_big_quiet_step (fail))
            refine wpQuiet_nil ?_
            intro w8 hb8
            go_wp2_with fail
            go_meet
            exact ⟨rfl, hide hb8⟩
          · obtain ⟨q, rfl⟩ : ∃ q, lv = q + 1 := ⟨lv - 1, by omega⟩
            have hqL : q < RL.length := by omega
            have e0 : (((q + 1 : Nat) : Int)) = (q : Int) + 1 := by omega
            rw [e0] at l1 l0 ⊢
            have l3 : decide ((0 : Int) < (q : Int) + 1) = true := decide_eq_true (by omega)
            have l5 : (q : Int) < (RL.length : Int) := by omega
            have l6 : (0 : Int) ≤ (q : Int) := by omega
            have QM := hide (fun V => rule_meets RL[q] e V)
            have hm1 : meetsB RL[q] e = true := by have := HIS.out q rfl; rw [List.getElem?_eq_getElem hqL] at this; exact this
            rw [hm1] at QM
            obtain ⟨-, h9 | ⟨b, off, hp, hc'⟩⟩ := HROW2.out
            · omega
            obtain ⟨x0, x1, x2, x3⟩ := hc' q hqL
            rw [hp] at mp0
            generalize RL[q] = r9 at x0 x1 x2 x3 QM
            have y0 := fun p : More => cell_more x0 p
            have y1 := fun p : More => cell_more x1 p
            have y2 := fun p : More => cell_more x2 p
            have y3 := fun p : More => cell_more x3 p
            clear hm1 hp hc' x0 x1 x2 x3 h0 e0 hle l2
            refine wp_region_grown (by kernel_rfl) (by kernel_rfl) ?_
            repeat (first
              | (refine wpQuiet_load_row ?_ 43 (.tmp 5) (by rfl) (q1 + 1) (by rfl) 43 #[.string e.a1, .string e.a2, .string e.a3, .string e.a4, .int .i64 e.t1, .int .i64 e.t2, .int .i64 e.t3, .int .i64 e.am, .int .i64 e.po, .slice e.p e.n e.c, .int .i64 e.x, .int .i64 e.y, .int .i64 e.z, .int .i64 e.tm, .int .i64 e.mf, .int .i64 e.lw, .int .i64 e.b1, .int .i64 e.b2, .int .i64 e.b3, .int .i64 e.b4, .int .i64 e.b5, .int .i64 e.b6, .int .i64 e.lo, .int .i64 e.hi, .int .i64 e.ct] (0, 0) _ ?_ Try.underlying43 rfl (by kernel_rfl) ?_; (focus rfl); (focus exact ME.out); simp only [Act.put, List.setIfInBounds_toArray, List.set_cons_succ, List.set_cons_zero])
              | go_big_quiet_step ((go_at_call 17; with_reducible exact more_of (QM.out _))))
            refine wpQuiet_nil ?_
            intro w8 hb8
            go_wp2_with fail
            go_meet
            exact ⟨rfl, hide hb8⟩
        case rest =>
          obtain ⟨rfl, HB⟩ := hcut
          have GP := hide ((HB.out.block _ (Array.getElem?_eq_some_iff.1 GP2.out).1).trans GP2.out)
          have GE := hide ((HB.out.block _ (Array.getElem?_eq_some_iff.1 GE2.out).1).trans GE2.out)
          have HROW := hide (HROW2.out.keep HB.out)
          have HL := hide (HL2.out.trans (HB.out.mono HL2.out.size))
          clear HB mp0 ME l1 l2 l0 GP2 GE2 HROW2 HL2 QL HIS
          generalize wc = V8 at HL GP GE HROW ⊢
          go_wp2_with fail
          go_loopw [9] (fun i wr => ∃ j : Nat, lv ≤ j ∧ j ≤ RL.length ∧ i = .int .i64 j ∧ Hid (Below V8.heap.size V8 wr)) (fun i _ => RL.length - (intOf i).toNat)
          case atStart => exact ⟨lv, Nat.le_refl _, hle, rfl, hide (Below.refl _ _)⟩
          case round =>
            obtain ⟨j, hj1, hj2, rfl, HBL⟩ := hrel
            have GP := hide ((HBL.out.block _ (Array.getElem?_eq_some_iff.1 GP.out).1).trans GP.out)
            obtain ⟨c0, c1, c2, -, -, -⟩ := tri_cells GP.out
            by_cases hlt : j < RL.length
            · have d : decide ((j : Int) < (RL.length : Int)) = true := decide_eq_true (by omega)
              have d' : decide (j < RL.length) = true := decide_eq_true hlt
              have GE := hide ((HBL.out.block _ (Array.getElem?_eq_some_iff.1 GE.out).1).trans GE.out)
              have HROW := hide (HROW.out.keep HBL.out)
              have QM := hide (fun V => rule_meets RL[j] e V)
              have hm1 : meetsB RL[j] e = false := by have := HTOP.out j hlt hj1; rw [List.getElem?_eq_getElem hlt] at this; exact this
              rw [hm1] at QM
              obtain ⟨-, h9 | ⟨b, off, hp, hc'⟩⟩ := HROW.out
              · omega
              obtain ⟨x0, x1, x2, x3⟩ := hc' j hlt
              have l5 : (j : Int) < (RL.length : Int) := by omega
              generalize RL[j] = r9 at x0 x1 x2 x3 QM
              have y0 := fun p : More => cell_more x0 p
              have y1 := fun p : More => cell_more x1 p
              have y2 := fun p : More => cell_more x2 p
              have y3 := fun p : More => cell_more x3 p
              clear hm1 hc' x0 x1 x2 x3
              go_upto_region 13 with fail
              have mp0 := fun p : More => cell_more c0 p
              rw [hp] at mp0
              clear hp c0 c1 c2 d d'
              have ME := hide (fun W (h : ∃ p, W = more wr p) => show W.heap[q1 + 1]? = _ from by obtain ⟨q, rfl⟩ := h; exact heap_more GE.out q)
              refine wp_region_grown (by kernel_rfl) (by kernel_rfl) ?_
              repeat (first
                | (refine wpQuiet_load_row ?_ 43 (.tmp 5) (by rfl) (q1 + 1) (by rfl) 43 #[.string e.a1, .string e.a2, .string e.a3, .string e.a4, .int .i64 e.t1, .int .i64 e.t2, .int .i64 e.t3, .int .i64 e.am, .int .i64 e.po, .slice e.p e.n e.c, .int .i64 e.x, .int .i64 e.y, .int .i64 e.z, .int .i64 e.tm, .int .i64 e.mf, .int .i64 e.lw, .int .i64 e.b1, .int .i64 e.b2, .int .i64 e.b3, .int .i64 e.b4, .int .i64 e.b5, .int .i64 e.b6, .int .i64 e.lo, .int .i64 e.hi, .int .i64 e.ct] (0, 0) _ ?_ Try.underlying43 rfl (by kernel_rfl) ?_; (focus rfl); (focus exact ME.out); simp only [Act.put, List.setIfInBounds_toArray, List.set_cons_succ, List.set_cons_zero])
                | go_big_quiet_step ((go_at_call 17; with_reducible exact more_of (QM.out _))))
              refine wpQuiet_nil ?_
              intro w9 hb9
              have HBL := hide (HBL.out.trans (hb9.mono HBL.out.size))
              clear hb9
              go_wp2_with fail
              go_roundw
              case rel => exact ⟨j + 1, by omega, by omega, by go_num, HBL⟩
              case measure => simp [intOf]; omega
            · have d : decide ((j : Int) < (RL.length : Int)) = false := decide_eq_false (by omega)
              have d' : decide (j < RL.length) = false := decide_eq_false hlt
              have HL9 := hide (HL.out.trans (HBL.out.mono HL.out.size))
              clear hlt
              go_wp2_with (go_at_call 8; (with_reducible refine (QAW.out _).mono ?_); rintro en v9 ⟨rfl, hb⟩)
              go_ret
              exact ⟨rfl, HL9.out.trans (hb.mono HL9.out.size)⟩

end Go.Proofs.Ytlhphhiodckaaaa
