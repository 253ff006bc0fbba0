/- The walk of the clock's within. -/
import Derived.Test.YtecoemdhnphmdaaClockWalkE
namespace Go.Proofs.Ytecoemdhnphmdaa
open Go.RowKit
set_option linter.unusedVariables false
set_option linter.unusedSimpArgs false
theorem beh_stop (A : Nat → Anc) (t : Int) (k : Nat) (h : behF A t k = k) (ht : t < (A k).tag) : ∀ d, behF A t (k + d) = k
  | 0 => h
  | d + 1 => by
    have ih := beh_stop A t k h ht d
    show (if behF A t (k + d) = k + d ∧ (A (k + d)).tag ≤ t then k + d + 1 else behF A t (k + d)) = k
    rw [ih, if_neg]
    rintro ⟨h1, h2⟩
    have : d = 0 := by omega
    subst this
    simp at h2
    omega
theorem beh_next (A : Nat → Anc) (t : Int) (k : Nat) (h : behF A t k = k) (ht : (A k).tag ≤ t) : behF A t (k + 1) = k + 1 := by
  unfold behF
  rw [if_pos ⟨h, ht⟩]
/-- Calls with an anchor of the row. -/
theorem wit_hull {A : Nat → Anc} {n : Nat} {J : List Nat} {x t : Int} {k : Nat} (hk : behF A t n = k) (hm : k ∈ J) : witLo A n J x t = min (frLo (A (k - 1)) x t) (frLo (A k) x t) ∧ witHi A n J x t = max (frHi (A (k - 1)) x t) (frHi (A k) x t) := by
  unfold witLo witHi
  rw [hk]
  simp only [if_pos hm]
  exact ⟨trivial, trivial⟩
theorem wit_run {A : Nat → Anc} {n : Nat} {J : List Nat} {x t : Int} {k : Nat} (hk : behF A t n = k) (hm : ¬ k ∈ J) : witLo A n J x t = comLo A x t (runF n (k - 1) J).1 ((runF n (k - 1) J).2 - (runF n (k - 1) J).1) ∧ witHi A n J x t = comHi A x t (runF n (k - 1) J).1 ((runF n (k - 1) J).2 - (runF n (k - 1) J).1) := by
  unfold witLo witHi
  rw [hk]
  simp only [if_neg hm]
  exact ⟨trivial, trivial⟩
theorem NatRow.keep {w w' : World} {a : Option Addr} {m : Nat} {J : List Nat} (h : NatRow w a m J) (hb : Below w.heap.size w w') : NatRow w' a m J := by
  obtain ⟨rfl, h | ⟨b, off, rfl, h⟩⟩ := h
  · exact ⟨rfl, .inl h⟩
  · exact ⟨rfl, .inr ⟨b, off, rfl, fun i hi => by rw [hb.cell (block_lt_of_cell (h i hi))]; exact h i hi⟩⟩
theorem grow_set2' {B : Nat} {w0 w : World} {p : Prop} (h : Below B w0 w ∧ p) {g i j : Nat} (ha : B ≤ g) (v v' : Value) : Below B w0 ((w.setCell ⟨g, i, none⟩ v).setCell ⟨g, j, none⟩ v') := (h.1.setCell ha v).setCell ha v'
theorem grow_call' {w0 w w' : World} {p : Prop} (h : Below w0.heap.size w0 w ∧ p) (hn : Below w.heap.size w w') : Below w0.heap.size w0 w' := h.1.trans (hn.mono h.1.size)
set_option maxHeartbeats 8000000 in
set_option maxRecDepth 100000 in
theorem within_ok (A : Nat → Anc) (n : Nat) (p : Option Addr) (cap : Nat) (J : List Nat) (a : Option Addr) (m c : Nat) (x t : Int) (hL : AncL n A) (hn0 : 0 < n) (hcap : n ≤ cap) (hcm : cap ≤ 9223372036854775807) (hJ : ∀ j ∈ J, 1 ≤ j ∧ j < n) (hJl : J.length ≤ 256)
    (hx : 0 ≤ x ∧ x ≤ 500000) (ht : 0 ≤ t ∧ t ≤ 9007199254740992) (w : World) (hr : AncRow w p n A) (hj : NatRow w a m J) :
    Calls Try.prog 36 #[.slice p n cap, .slice a m c, .int .i64 x, .int .i64 t] w fun e w' => e = .returned (.agg #[.int .i64 (witLo A n J x t), .int .i64 (witHi A n J x t)]) ∧ Below w.heap.size w w' := by
  rcases hr with h0 | ⟨b, off, rfl, hc⟩
  · omega
  have hn : n ≤ 256 := hL.few
  have HC := hide hc
  have HF := hide (fun (i : Nat) (hi : i < n) => from_ok (A i) x t (hL.one i hi).1 hx ht)
  have HT := hide (fun (i : Nat) (hi : i < n) => (hL.one i hi).1)
  have HCT := hide (fun (v : Nat) (hv : v ≤ 256) (W : World) (hW : NatRow W a m J) => contains_ok J v a m c hJl (fun j hj => by have := hJ j hj; omega) hv W hW)
  have HRU := hide (fun (i : Nat) (hv : i ≤ 256) (W : World) (hW : NatRow W a m J) => run_ok J n i a m c hJl (fun j hj => by have := hJ j hj; omega) hn hv W hW)
  have HRI := hide (fun (i : Nat) (hi : i < n) => runF_in (n := n) (i := i) (J := J) (fun j hj => (hJ j hj).2) hi)
  have HJ := hide hJ
  have HJN := hide hj
  have h0 := heap_alloc_new w (.cells #[.int .i64 0, .int .i64 0] 70)
  have hb := below1 (w := w) (.cells #[.int .i64 0, .int .i64 0] 70)
  obtain ⟨t0, t1⟩ := ht
  clear hc hJ hj hL hx
  go_enter Try.func36, Try.ntmps36
  go_wp2_with fail
  generalize w.alloc (.cells #[.int .i64 0, .int .i64 0] 70) = W at *
  have H0 := hide h0
  have HB := hide hb
  clear h0 hb
  go_loop [9] (fun i => ∃ k : Nat, k ≤ n ∧ i = .int .i64 k ∧ Hid (behF A t k = k)) (fun i => n - (intOf i).toNat)
  case atStart => exact ⟨0, Nat.zero_le _, rfl, rfl⟩
  case round =>
    obtain ⟨k, hk, rfl, hbeh⟩ := hrel
    by_cases hgo : k < n ∧ (A k).tag ≤ t
    · obtain ⟨hlt, htag⟩ := hgo
      obtain ⟨c0, c1, c2⟩ := anc_cells HC.out HB.out hlt
      have hnext := hide (beh_next A t k hbeh.out htag)
      have hT := HT.out k hlt
      have g0 := hT.1
      have g1 := hT.2.1
      have d : decide ((A k).tag ≤ t) = true := by simp; omega
      clear hT c1 c2
      go_wp2
      go_round
      case rel => exact ⟨k + 1, by omega, by go_num, hnext⟩
      case measure => simp [intOf]; omega
    · have hK : behF A t n = k := by
        by_cases hlt : k < n
        · have := beh_stop A t k hbeh.out (by omega) (n - k)
          rw [show k + (n - k) = n by omega] at this
          exact this
        · have : k = n := by omega
          rw [← this]; exact hbeh.out
      have HK := hide hK
      clear hK
      by_cases hm : k ∈ J
      · have hkk := HJ.out k hm
        have hlt : k < n := hkk.2
        have hk1 : 1 ≤ k := hkk.1
        have htag : t < (A k).tag := by omega
        obtain ⟨j, hjk⟩ : ∃ j, k = j + 1 := ⟨k - 1, by omega⟩
        have hjk1 : k - 1 = j := by omega
        obtain ⟨c0, c1, c2⟩ := anc_cells HC.out HB.out hlt
        have d : decide ((A k).tag ≤ t) = false := by simp; omega
        have hT := HT.out k hlt
        have g0 := hT.1
        have g1 := hT.2.1
        have hw := wit_hull (x := x) HK.out hm
        rw [hjk1] at hw
        have q1 := HCT.out k (by omega) W (HJN.out.keep HB.out)
        rw [decide_eq_true hm] at q1
        have qj := HF.out j (by omega)
        have qk := HF.out k hlt
        have q3 := hull_ok (frLo (A j) x t) (frHi (A j) x t) (frLo (A k) x t) (frHi (A k) x t)
        have keepS : ∀ w' : World, Below w.heap.size w w' → (Below w.heap.size w w' ∧ w'.cell? ⟨b, off + j * 3, none⟩ = some (.int .i64 (A j).tag) ∧ w'.cell? ⟨b, off + j * 3 + 1, none⟩ = some (.int .i64 (A j).low) ∧ w'.cell? ⟨b, off + j * 3 + 2, none⟩ = some (.int .i64 (A j).high) ∧ w'.cell? ⟨b, off + k * 3, none⟩ = some (.int .i64 (A k).tag) ∧ w'.cell? ⟨b, off + k * 3 + 1, none⟩ = some (.int .i64 (A k).low) ∧ w'.cell? ⟨b, off + k * 3 + 2, none⟩ = some (.int .i64 (A k).high)) := fun w' h => by
          obtain ⟨x0, x1, x2⟩ := anc_cells HC.out h (k := j) (by omega)
          obtain ⟨y0, y1, y2⟩ := anc_cells HC.out h hlt
          exact ⟨h, x0, x1, x2, y0, y1, y2⟩
        have hj0 : ((k : Int) - 1) = (j : Int) := by omega
        have hj4 : (j : Int) < (n : Int) := by omega
        have hj5 : (k : Int) < (n : Int) := by omega
        have hj6 : (0 : Int) ≤ (k : Int) - 1 := by omega
        clear hT htag hjk1 hjk
        generalize frLo (A j) x t = p1 at *
        generalize frHi (A j) x t = s1 at *
        generalize frLo (A k) x t = p2 at *
        generalize frHi (A k) x t = s2 at *
        generalize min p1 p2 = y at *
        generalize max s1 s2 = z at *
        generalize (A j).tag = tj at *
        generalize (A j).low = lj at *
        generalize (A j).high = hj at *
        generalize (A k).tag = tk at *
        generalize (A k).low = lk at *
        generalize (A k).high = hk' at *
        have Q1 := hide q1
        have QJ := hide qj
        have QK := hide qk
        have Q3 := hide q3
        have KS := hide keepS
        have HM := hide hm
        have HW := hide hw
        clear q1 qj qk q3 keepS hm hw
        go_wp2_with (first
          | (go_at_call 50; (with_reducible refine (Q1.out).mono ?_); rintro e w1 ⟨rfl, rfl⟩))
        clear c0 c1 c2
        have k8 := H0.out
        have hj7 : (0 : Int) ≤ (j : Int) := Int.natCast_nonneg _
        have hj8 : (0 : Int) ≤ (k : Int) := Int.natCast_nonneg _
        have hw1 : IntKind.i64.wrap ((k : Int) - 1) = (j : Int) := by rw [hj0]; exact IntWalk.i64_in _ (by omega)
        have hw2 : IntKind.i64.wrap (j : Int) = (j : Int) := IntWalk.i64_in _ (by omega)
        go_region_held3 (fun w' => Below w.heap.size w w' ∧ w'.cell? ⟨b, off + j * 3, none⟩ = some (.int .i64 tj) ∧ w'.cell? ⟨b, off + j * 3 + 1, none⟩ = some (.int .i64 lj) ∧ w'.cell? ⟨b, off + j * 3 + 2, none⟩ = some (.int .i64 hj) ∧ w'.cell? ⟨b, off + k * 3, none⟩ = some (.int .i64 tk) ∧ w'.cell? ⟨b, off + k * 3 + 1, none⟩ = some (.int .i64 lk) ∧ w'.cell? ⟨b, off + k * 3 + 2, none⟩ = some (.int .i64 hk'))
          (first
            | (exact KS.out _ HB.out.drew)
            | (exact KS.out _ hb)
            | (refine KS.out _ (grow_set2' (by assumption) ?_ _ _); (first | exact Nat.le_refl _ | assumption | (simp; omega))))
          ((first
            | (go_at_call 47; (with_reducible refine (QJ.out _).mono ?_); rintro e w1 ⟨rfl, hn⟩; (have hb := grow_call' (w0 := w) (by assumption) hn); (have k8 := (hn.block _ (Array.getElem?_eq_some_iff.1 k8).1).trans k8))
            | (go_at_call 47; (with_reducible refine (QK.out _).mono ?_); rintro e w1 ⟨rfl, hn⟩; (have hb := grow_call' (w0 := w) (by assumption) hn); (have k8 := (hn.block _ (Array.getElem?_eq_some_iff.1 k8).1).trans k8))
            | (go_at_call 51; (with_reducible refine (Q3.out _).mono ?_); rintro e w3 ⟨rfl, hn⟩; (have hb := grow_call' (w0 := w) (by assumption) hn); (have k8 := (hn.block _ (Array.getElem?_eq_some_iff.1 k8).1).trans k8);
                (obtain ⟨k0, k1, k2, k3⟩ := pair_cells k8); (obtain ⟨z0, z1, _, _⟩ := pair_cells (pair_set k8 (.int .i64 y) (.int .i64 z))))))
        all_goals
          rename_i hS
          have hfin := hide hS.1
          clear hS
          go_wp2
          (try simp only [Exit.inBlock, Exit.then])
          refine bodyPost_ret (v := .agg #[.int .i64 y, .int .i64 z]) (by simp [results, Try.results36, go_sem, z0, z1]) rfl ⟨by rw [HW.out.1, HW.out.2], hfin.out⟩
      · have q1 := HCT.out k (by omega) W (HJN.out.keep HB.out)
        rw [decide_eq_false hm] at q1
        have hw := wit_run (x := x) HK.out hm
        have hri := HRI.out (k - 1) (by omega)
        have q2 := HRU.out (k - 1) (by omega) W (HJN.out.keep HB.out)
        obtain ⟨i, hi⟩ : ∃ i, k - 1 = i := ⟨_, rfl⟩
        rw [hi] at hw hri q2
        obtain ⟨f, hf⟩ : ∃ f, (runF n i J).1 = f := ⟨_, rfl⟩
        obtain ⟨e, he⟩ : ∃ e, (runF n i J).2 = e := ⟨_, rfl⟩
        rw [hf, he] at hw hri q2
        have HFE := hide (And.intro hf he)
        clear hf he
        obtain ⟨r1, r2, r3⟩ := hri
        have HW := hide hw
        have Q1 := hide q1
        have HM := hide hm
        have qf := HF.out f (by omega)
        have QF := hide qf
        have comz : ∀ g : Nat, comLo A x t g 0 = frLo (A g) x t ∧ comHi A x t g 0 = frHi (A g) x t := fun g => ⟨rfl, rfl⟩
        have HZ := hide (comz f)
        have hfe0 : (f : Int) ≤ (e : Int) := by omega
        have hfe1 : (e : Int) ≤ (cap : Int) := by omega
        have hfe2 : (f : Int) < (n : Int) := by omega
        have hfe3 : f < cap := by omega
        clear hw q1 hm qf comz
        have hcase : (k < n ∧ 0 < k ∧ ¬ (A k).tag ≤ t) ∨ (k = 0 ∧ ¬ (A k).tag ≤ t) ∨ (k = n) := by omega
        obtain ⟨c3, c4, c5⟩ := anc_cells HC.out HB.out (k := f) (by omega)
        rcases hcase with ⟨hlt, hk1, htag⟩ | ⟨hk0, htag⟩ | hkn
        rotate_left
        focus
          subst hk0
          have hi0 : i = 0 := by omega
          subst hi0
          obtain ⟨c0, c1, c2⟩ := anc_cells HC.out HB.out (k := 0) hn0
          simp only [Nat.zero_mul, Nat.add_zero] at c0 c1 c2
          have d : decide ((A 0).tag ≤ t) = false := by simp; omega
          rw [show ((0 : Nat) : Int) = 0 from rfl] at q2
          have Q1 := Q1.out
          rw [show ((0 : Nat) : Int) = 0 from rfl] at Q1
          have Q1 := hide Q1
          have Q2 := hide q2
          clear q2
          go_wp2_with (first
            | (go_at_call 50; (with_reducible refine (Q1.out).mono ?_); rintro ee w1 ⟨rfl, rfl⟩)
            | (go_at_call 52; (with_reducible refine (Q2.out).mono ?_); rintro ee w1 ⟨rfl, rfl⟩)
            | (go_at_call 47; (with_reducible refine (QF.out _).mono ?_); rintro ee w1 ⟨rfl, hn1⟩))
        rotate_left
        focus
          have hj0 : ((k : Int) - 1) = (i : Int) := by omega
          have hjk := hide hkn
          have dk : decide ((k : Int) < (n : Int)) = false := by simp; omega
          have dk' : decide (k < n) = false := by simp; omega
          have hk1 : 0 < k := by omega
          have Q2 := hide q2
          clear q2 hkn
          go_wp2_with (first
            | (go_at_call 50; (with_reducible refine (Q1.out).mono ?_); rintro ee w1 ⟨rfl, rfl⟩)
            | (go_at_call 52; (with_reducible refine (Q2.out).mono ?_); rintro ee w1 ⟨rfl, rfl⟩)
            | (go_at_call 47; (with_reducible refine (QF.out _).mono ?_); rintro ee w1 ⟨rfl, hn1⟩))
        rotate_left
        focus
          obtain ⟨c0, c1, c2⟩ := anc_cells HC.out HB.out hlt
          have d : decide ((A k).tag ≤ t) = false := by simp; omega
          have hj0 : ((k : Int) - 1) = (i : Int) := by omega
          have Q2 := hide q2
          clear q2
          go_wp2_with (first
            | (go_at_call 50; (with_reducible refine (Q1.out).mono ?_); rintro ee w1 ⟨rfl, rfl⟩)
            | (go_at_call 52; (with_reducible refine (Q2.out).mono ?_); rintro ee w1 ⟨rfl, rfl⟩)
            | (go_at_call 47; (with_reducible refine (QF.out _).mono ?_); rintro ee w1 ⟨rfl, hn1⟩))
        rotate_left
        all_goals
          have hb1 : Below w.heap.size w w1 := HB.out.trans (hn1.mono HB.out.size)
          have k8 := (hn1.block _ (Array.getElem?_eq_some_iff.1 H0.out).1).trans H0.out
          have hG : w.heap.size < w1.heap.size := by have := hn1.size; have := (Array.getElem?_eq_some_iff.1 H0.out).1; omega
          have k8 := pair_alloc k8 (.cells #[.int .i64 (frLo (A f) x t), .int .i64 (frHi (A f) x t)] 70)
          have k12 := heap_alloc_new w1 (.cells #[.int .i64 (frLo (A f) x t), .int .i64 (frHi (A f) x t)] 70)
          have hb2 := hb1.alloc hb1.size (.cells #[.int .i64 (frLo (A f) x t), .int .i64 (frHi (A f) x t)] 70)
          clear hb1 hn1
          generalize w1.alloc (.cells #[.int .i64 (frLo (A f) x t), .int .i64 (frHi (A f) x t)] 70) = W1 at *
          generalize w1.heap.size = G at *
          have K8 := hide k8
          have K12 := hide k12
          have HB2 := hide hb2
          clear k8 k12 hb2 c3 c4 c5
          (try clear c0 c1 c2 d)
          go_loopw [71] (fun v wr => ∃ m2 : Nat, m2 ≤ e - f ∧ v = .int .i64 m2 ∧ Below w.heap.size w wr ∧ wr.heap[w.heap.size]? = some (.cells #[.int .i64 0, .int .i64 0] 70 (0, 0)) ∧ ∃ y z : Int, wr.heap[G]? = some (.cells #[.int .i64 y, .int .i64 z] 70 (0, 0)) ∧ Hid (y = comLo A x t f m2 ∧ z = comHi A x t f m2)) (fun v _ => (e - f) - (intOf v).toNat)
          case atStart => exact ⟨0, Nat.zero_le _, rfl, HB2.out, K8.out, _, _, K12.out, HZ.out.1.symm, HZ.out.2.symm⟩
          case round =>
            obtain ⟨m2, hm2, rfl, hb, k8, y, z, k12, hyz⟩ := hrel
            clear HB2 K8 K12
            by_cases hlt2 : m2 < e - f
            · obtain ⟨c0, c1, c2⟩ := anc_cells HC.out hb (k := f + m2) (by omega)
              have eo : off + (f + m2) * 3 = off + f * 3 + m2 * 3 := by omega
              rw [eo] at c0 c1 c2
              have q1 := HF.out (f + m2) (by omega)
              have q2 := common_ok y z (frLo (A (f + m2)) x t) (frHi (A (f + m2)) x t)
              have hnew : max y (frLo (A (f + m2)) x t) = comLo A x t f (m2 + 1) ∧ min z (frHi (A (f + m2)) x t) = comHi A x t f (m2 + 1) := by
                rw [hyz.out.1, hyz.out.2]; exact ⟨rfl, rfl⟩
              generalize frLo (A (f + m2)) x t = p2 at *
              generalize frHi (A (f + m2)) x t = s2 at *
              generalize max y p2 = y' at *
              generalize min z s2 = z' at *
              generalize (A (f + m2)).tag = tg at *
              generalize (A (f + m2)).low = lo at *
              generalize (A (f + m2)).high = hi at *
              have Q1 := hide q1
              have Q2 := hide q2
              have HN := hide hnew
              have K8 := hide k8
              have K12 := hide k12
              have HB3 := hide hb
              have hg8 : w.heap.size ≠ G := by omega
              have hgG : w.heap.size ≤ G := by omega
              clear q1 q2 hnew eo k8 k12 hb
              go_wp2_with fail
              have k12 := pair_alloc K12.out (.cells #[.int .i64 tg, .int .i64 lo, .int .i64 hi] 34)
              have k8 := pair_alloc K8.out (.cells #[.int .i64 tg, .int .i64 lo, .int .i64 hi] 34)
              have k14 := heap_alloc_new wr (.cells #[.int .i64 tg, .int .i64 lo, .int .i64 hi] 34)
              have hb := HB3.out.alloc HB3.out.size (.cells #[.int .i64 tg, .int .i64 lo, .int .i64 hi] 34)
              generalize wr.alloc (.cells #[.int .i64 tg, .int .i64 lo, .int .i64 hi] 34) = W2 at *
              clear c0 c1 c2
              obtain ⟨d0, d1, _, _⟩ := pair_cells k12
              obtain ⟨e0, e1, e2⟩ := tri_cells k14
              have K8 := hide k8
              have K12 := hide k12
              have HB3 := hide hb
              clear k8 k12 hb k14
              go_region_with ((first
                | (go_at_call 47; (with_reducible refine (Q1.out _).mono ?_); rintro ee w3 ⟨rfl, hn3⟩; (have K12 := hide ((hn3.block _ (Array.getElem?_eq_some_iff.1 K12.out).1).trans K12.out)); (have K8 := hide ((hn3.block _ (Array.getElem?_eq_some_iff.1 K8.out).1).trans K8.out)); (have HB3 := hide (HB3.out.drew.trans (hn3.mono HB3.out.size)));
                    (obtain ⟨x0, x1, _, _⟩ := pair_cells K12.out))
                | (go_at_call 37; (with_reducible refine (Q2.out _).mono ?_); rintro ee w4 ⟨rfl, hn4⟩; (have K12 := hide ((hn4.block _ (Array.getElem?_eq_some_iff.1 K12.out).1).trans K12.out)); (have K8 := hide ((hn4.block _ (Array.getElem?_eq_some_iff.1 K8.out).1).trans K8.out)); (have HB3 := hide (HB3.out.trans (hn4.mono HB3.out.size)));
                    (obtain ⟨x0, x1, x2, x3⟩ := pair_cells K12.out))))
              all_goals
                go_wp2
                go_roundw
                case rel => exact ⟨m2 + 1, by omega, by go_num, (HB3.out.setCell hgG _).setCell hgG _, (Below.heap_setCell _ _ _ _ hg8).trans ((Below.heap_setCell _ _ _ _ hg8).trans K8.out), _, _, pair_set K12.out _ _, HN⟩
                case measure => simp [intOf]; omega
            · have he2 : m2 = e - f := by omega
              have hyz' := hyz.out
              rw [he2] at hyz'
              have HYZ := hide hyz'
              obtain ⟨d0, d1, _, _⟩ := pair_cells k12
              obtain ⟨e0, e1, e2, e3⟩ := pair_cells k8
              obtain ⟨z0, z1, _, _⟩ := pair_cells (pair_set k8 (.int .i64 y) (.int .i64 z))
              have HB3 := hide hb
              have dd : decide ((m2 : Int) < ((e - f : Nat) : Int)) = false := by simp; omega
              have dd' : decide (m2 < e - f) = false := by simp; omega
              clear hyz' he2 hb k8 k12 hyz
              go_wp2
              (try simp only [Exit.inBlock, Exit.then])
              refine bodyPost_ret (v := .agg #[.int .i64 y, .int .i64 z]) (by simp [results, Try.results36, go_sem, z0, z1]) rfl ⟨by rw [HW.out.1, HW.out.2, HYZ.out.1, HYZ.out.2], ?_⟩
              exact (HB3.out.setCell (Nat.le_refl _) _).setCell (Nat.le_refl _) _
end Go.Proofs.Ytecoemdhnphmdaa
