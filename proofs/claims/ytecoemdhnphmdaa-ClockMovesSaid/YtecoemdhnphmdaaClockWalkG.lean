/- The walk of the clock's Correct. -/
import Derived.Test.YtecoemdhnphmdaaClockWalkF
namespace Go.Proofs.Ytecoemdhnphmdaa
open Go.RowKit
set_option linter.unusedVariables false
set_option linter.unusedSimpArgs false
def corE (A : Nat → Anc) (n : Nat) (x t : Int) : Int := if corLo A n x t ≤ corHi A n x t then 0 else 11
def corT (A : Nat → Anc) (n : Nat) (x t : Int) : Int := if corLo A n x t ≤ corHi A n x t then (corLo A n x t + corHi A n x t) / 2 else 0
def corO (A : Nat → Anc) (n : Nat) (x t : Int) : Int := if corLo A n x t ≤ corHi A n x t then corHi A n x t - (corLo A n x t + corHi A n x t) / 2 else 0
theorem time_any (n : Int) (h : 0 ≤ n ∧ n ≤ 9007199254740992) : True := trivial
set_option maxHeartbeats 4000000 in
set_option maxRecDepth 100000 in
theorem correct_ok (A : Nat → Anc) (n : Nat) (p : Option Addr) (cap : Nat) (x t : Int) (hL : AncL n A) (hn0 : 0 < n) (hcap : n ≤ cap) (hcm : cap ≤ 9223372036854775807) (hx : 0 ≤ x ∧ x ≤ 500000) (ht : 0 ≤ t ∧ t ≤ 9007199254740992) (w : World) (hr : AncRow w p n A) :
    Calls Try.prog 15 #[.slice p n cap, .int .i64 x, .int .i64 t] w fun e w' => e = .returned (.tuple #[.int .i64 (corT A n x t), .int .i64 (corO A n x t), .int .i64 (corE A n x t)]) ∧ Below w.heap.size w w' := by
  have hn : n ≤ 256 := hL.few
  have QJ := hide (jumps_ok A n p cap x hL hx w hr)
  have QW := hide (fun (a : Option Addr) (m c : Nat) (W : World) (hW : AncRow W p n A) (hj : NatRow W a m (jumpsF A x n)) => within_ok A n p cap (jumpsF A x n) a m c x t hL hn0 hcap hcm (jumps_in A x n) (by have := jumps_length A x n; omega) hx ht W hW hj)
  have QT := hide (clk_time_yes t ht)
  have QC := hide (common_ok (witLo A n (jumpsF A x n) x t) (witHi A n (jumpsF A x n) x t) 0 9007199254740992)
  have HR := hide hr
  have d0 : decide ((n : Int) = 0) = false := by simp; omega
  have d1 : decide (n = 0) = false := by simp; omega
  have d2 : ((n : Int) == 0) = false := by simp; omega
  have hlo : 0 ≤ corLo A n x t := by unfold corLo; omega
  have hhi : corHi A n x t ≤ 9007199254740992 := by unfold corHi; omega
  have HE := hide (show corT A n x t = _ from rfl)
  unfold corT corO corE
  change Hid (∀ w : World, Calls Try.prog _ _ w fun e w' => e = .returned (.agg #[.int .i64 (corLo A n x t), .int .i64 (corHi A n x t)]) ∧ _) at QC
  generalize corLo A n x t = lo at *
  generalize corHi A n x t = hi at *
  clear HE hr hx
  obtain ⟨t0, t1⟩ := ht
  by_cases hle : lo ≤ hi
  · have hs0 : 0 ≤ lo + hi := by omega
    have dle : decide (hi < lo) = false := by simp; omega
    simp only [if_pos hle]
    go_enter Try.func15, Try.ntmps15
    go_wp2_with (first
      | (go_at_call 16; (with_reducible refine (QJ.out).mono ?_); rintro ee w1 ⟨⟨a, c, rfl, hj⟩, hb⟩; (have HJ := hide hj); (have HB := hide hb); clear hj hb)
      | (go_at_call 35; (with_reducible refine (QT.out _).mono ?_); rintro ee w2 ⟨rfl, rfl⟩)
      | (go_at_call 36; (with_reducible refine (QW.out _ _ _ _ ?_ ?_).mono ?_); (focus exact HR.out.keep HB.out); (focus exact HJ.out); rintro ee w2 ⟨rfl, hb2⟩; (have HB := hide (HB.out.trans (hb2.mono HB.out.size))); clear hb2)
      | (go_at_call 37; (with_reducible refine (QC.out _).mono ?_); rintro ee w3 ⟨rfl, hb2⟩; (have HB := hide (HB.out.trans (hb2.mono HB.out.size))); clear hb2))
    go_region
    go_wp2
    (try simp only [Exit.inBlock, Exit.then])
    refine bodyPost_ret (v := .tuple #[.int .i64 ((lo + hi) / 2), .int .i64 (hi - (lo + hi) / 2), .int .i64 0]) (by simp [results, Try.results15, go_sem]) rfl ⟨rfl, ?_⟩
    exact (HB.out.alloc HB.out.size _).drew
  · have dle : decide (hi < lo) = true := by simp; omega
    simp only [if_neg hle]
    go_enter Try.func15, Try.ntmps15
    go_wp2_with (first
      | (go_at_call 16; (with_reducible refine (QJ.out).mono ?_); rintro ee w1 ⟨⟨a, c, rfl, hj⟩, hb⟩; (have HJ := hide hj); (have HB := hide hb); clear hj hb)
      | (go_at_call 35; (with_reducible refine (QT.out _).mono ?_); rintro ee w2 ⟨rfl, rfl⟩)
      | (go_at_call 36; (with_reducible refine (QW.out _ _ _ _ ?_ ?_).mono ?_); (focus exact HR.out.keep HB.out); (focus exact HJ.out); rintro ee w2 ⟨rfl, hb2⟩; (have HB := hide (HB.out.trans (hb2.mono HB.out.size))); clear hb2)
      | (go_at_call 37; (with_reducible refine (QC.out _).mono ?_); rintro ee w3 ⟨rfl, hb2⟩; (have HB := hide (HB.out.trans (hb2.mono HB.out.size))); clear hb2))
    (try simp only [Exit.inBlock, Exit.then])
    refine bodyPost_ret (v := .tuple #[.int .i64 0, .int .i64 0, .int .i64 11]) (by simp [results, Try.results15, go_sem]) rfl ⟨rfl, ?_⟩
    exact HB.out.alloc HB.out.size _
theorem correct_none (A : Nat → Anc) (p : Option Addr) (cap : Nat) (x t : Int) (hx : 0 ≤ x ∧ x ≤ 500000) (ht : 0 ≤ t ∧ t ≤ 9007199254740992) (w : World) :
    Calls Try.prog 15 #[.slice p 0 cap, .int .i64 x, .int .i64 t] w fun e w' => e = .returned (.tuple #[.int .i64 0, .int .i64 0, .int .i64 6]) ∧ Below w.heap.size w w' := by
  have QJ := hide (jumps_ok A 0 p cap x ⟨by omega, fun i h => by omega, fun i _ h => by omega⟩ hx w (.inl rfl))
  have QT := hide (clk_time_yes t ht)
  clear hx ht
  go_enter Try.func15, Try.ntmps15
  go_wp2_with (first
      | (go_at_call 16; (with_reducible refine (QJ.out).mono ?_); rintro ee w1 ⟨⟨a, c, rfl, hj⟩, hb⟩; (have HJ := hide hj); (have HB := hide hb); clear hj hb)
      | (go_at_call 35; (with_reducible refine (QT.out _).mono ?_); rintro ee w2 ⟨rfl, rfl⟩))
  (try simp only [Exit.inBlock, Exit.then])
  refine bodyPost_ret (v := .tuple #[.int .i64 0, .int .i64 0, .int .i64 6]) (by simp [results, Try.results15, go_sem]) rfl ⟨rfl, ?_⟩
  exact HB.out
end Go.Proofs.Ytecoemdhnphmdaa
