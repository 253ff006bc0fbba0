/- The walks of the sender and its reference: Get of any sender. (written by gen_sndget.py) -/
import Derived.Test.YtpniokkllkjhhaaSndAnyC
namespace Go.Proofs.Ytpniokkllkjhhaa
open Go.RowKit
set_option linter.unusedVariables false
set_option linter.unusedSimpArgs false
/-- Whether a number is kept, and its message. -/
def gB (s f : Int) (D : List ByteArray) (k : Int) : Bool := vldB s f D && decide (f ≤ k ∧ k < f + (D.length : Int))
def gV (s f : Int) (D : List ByteArray) (k : Int) : ByteArray := if gB s f D k = true then (D[(k - f).toNat]?).getD ⟨#[]⟩ else ⟨#[]⟩

set_option maxHeartbeats 4000000 in
set_option maxRecDepth 100000 in
theorem snd_get_yes (s f : Nat) (D : List ByteArray) (j : Nat) (p : Option Addr) (n c : Nat) (hok : SOk s f D) (hc : n ≤ c ∧ c ≤ 9223372036854775807) (hj : j < D.length) (w : World) (hr : StrRow w p n D) :
    Calls Try.prog 15 #[.agg #[.int .i64 s, .int .i64 f, .slice p n c], .int .i64 (f + j : Nat)] w fun e w' => e = .returned (.tuple #[.string D[j], .bool true]) ∧ Below w.heap.size w w' := by
  have hnD := hr.1
  have HV := hide (fun (W : World) (hW : StrRow W p n D) => snd_valid s f D p n c hok W hW)
  have hfb : f ≤ 1073741825 := by have := hok.2.2.2.1; omega
  have hnb : n ≤ 1000000 := by have := hok.2.2.1; have := hok.2.1; omega
  have HNX := hide (snd_next s f p n c ⟨by omega, by omega⟩ (by omega))
  obtain ⟨k, hk⟩ : ∃ k, f + j = k := ⟨_, rfl⟩
  have hjn : j < n := by omega
  rw [hk]
  obtain ⟨-, h0 | ⟨b, off, rfl, hcell⟩⟩ := hr
  · omega
  have cj := hcell j hj
  have HR := hide (show StrRow w (some ⟨b, off, none⟩) n D from ⟨hnD, .inr ⟨b, off, rfl, hcell⟩⟩)
  generalize D[j] = y at *
  clear hcell
  have e1 : (k : Int) - (f : Int) = (j : Int) := by omega
  have e2 : (j : Int) < (n : Int) := by omega
  have hin := hide (snd_in_yes (k : Int) (f : Int) ((f : Int) + (n : Int) - 1) ⟨by omega, by omega⟩)
  have HJ := hide hj
  have hkb : k ≤ 1074741825 := by omega
  have hjb : j ≤ 1000000 := by omega
  have HK := hide hk
  clear hnD hj hok hk
  go_enter Try.func15, Try.ntmps15
  go_wp2_with fail
  have h0 := heap_alloc_new w (.cells #[.int .i64 s, .int .i64 f, .slice (some ⟨b, off, none⟩) n c] 30)
  have HB := hide (below1 (w := w) (.cells #[.int .i64 s, .int .i64 f, .slice (some ⟨b, off, none⟩) n c] 30))
  have cj' : (w.alloc (.cells #[.int .i64 s, .int .i64 f, .slice (some ⟨b, off, none⟩) n c] 30)).cell? ⟨b, off + j, none⟩ = some (.string y) := by rw [HB.out.cell (block_lt_of_cell cj)]; exact cj
  generalize w.alloc (.cells #[.int .i64 s, .int .i64 f, .slice (some ⟨b, off, none⟩) n c] 30) = W at *
  obtain ⟨c0, c1, c2, -, -, -⟩ := tri_cells h0
  have k0 := fun q : More => cell_more c0 q
  have k1 := fun q : More => cell_more c1 q
  have k2 := fun q : More => cell_more c2 q
  have H0 := hide h0
  have CJ := hide cj'
  have KR := fun q : More => HR.out.keep (HB.out.trans ((below_more W q).mono HB.out.size))
  have HKR := hide KR
  clear h0 cj cj' c0 c1 c2 KR
  refine wp_region_grown (by kernel_rfl) (by kernel_rfl) ?_
  repeat (go_big_quiet_step ((first
    | (go_at_call 13; exact more_of (HV.out _ (HKR.out _)))
    | (go_at_call 14; exact more_of (HNX.out _))
    | (go_at_call 27; exact more_of_same (hin.out _)))))
  refine wpQuiet_nil ?_
  intro w2 hb2
  have g0 := (hb2.block _ (Array.getElem?_eq_some_iff.1 H0.out).1).trans H0.out
  obtain ⟨c0, c1, c2, -, -, -⟩ := tri_cells g0
  have cj2 : w2.cell? ⟨b, off + j, none⟩ = some (.string y) := by rw [hb2.cell (block_lt_of_cell CJ.out)]; exact CJ.out
  have HB2 := hide hb2
  clear g0 hb2 k0 k1 k2
  go_wp2
  go_ret2
  exact ⟨by first | rfl | simp, HB.out.trans (HB2.out.mono HB.out.size)⟩
set_option maxHeartbeats 4000000 in
set_option maxRecDepth 100000 in
theorem snd_get_no (s f : Nat) (D : List ByteArray) (k : Int) (p : Option Addr) (n c : Nat) (hok : SOk s f D) (hk : k < (f : Int) ∨ (f : Int) + (D.length : Int) ≤ k) (w : World) (hr : StrRow w p n D) :
    Calls Try.prog 15 #[.agg #[.int .i64 s, .int .i64 f, .slice p n c], .int .i64 k] w fun e w' => e = .returned (.tuple #[.string ⟨#[]⟩, .bool false]) ∧ Below w.heap.size w w' := by
  have hnD := hr.1
  have HV := hide (fun (W : World) (hW : StrRow W p n D) => snd_valid s f D p n c hok W hW)
  have hfb : f ≤ 1073741825 := by have := hok.2.2.2.1; omega
  have hnb : n ≤ 1000000 := by have := hok.2.2.1; have := hok.2.1; omega
  have HNX := hide (snd_next s f p n c ⟨by omega, by omega⟩ (by omega))
  have HR := hide hr
  have hin := hide (snd_in_no k (f : Int) ((f : Int) + (n : Int) - 1) (by omega))
  clear hnD hr hk hok
  go_enter Try.func15, Try.ntmps15
  go_wp2_with fail
  have h0 := heap_alloc_new w (.cells #[.int .i64 s, .int .i64 f, .slice p n c] 30)
  have HB := hide (below1 (w := w) (.cells #[.int .i64 s, .int .i64 f, .slice p n c] 30))
  generalize w.alloc (.cells #[.int .i64 s, .int .i64 f, .slice p n c] 30) = W at *
  obtain ⟨c0, c1, c2, -, -, -⟩ := tri_cells h0
  have k0 := fun q : More => cell_more c0 q
  have k1 := fun q : More => cell_more c1 q
  have k2 := fun q : More => cell_more c2 q
  have KR := fun q : More => HR.out.keep (HB.out.trans ((below_more W q).mono HB.out.size))
  have HKR := hide KR
  clear h0 c0 c1 c2 KR
  refine wp_region_grown (by kernel_rfl) (by kernel_rfl) ?_
  repeat (go_big_quiet_step ((first
    | (go_at_call 13; exact more_of (HV.out _ (HKR.out _)))
    | (go_at_call 14; exact more_of (HNX.out _))
    | (go_at_call 27; exact more_of_same (hin.out _)))))
  refine wpQuiet_nil ?_
  intro w2 hb2
  have HB2 := hide hb2
  clear hb2 k0 k1 k2
  go_wp2
  go_ret2
  exact ⟨by first | rfl | simp, HB.out.trans (HB2.out.mono HB.out.size)⟩
set_option maxHeartbeats 4000000 in
set_option maxRecDepth 100000 in
theorem snd_get_bad (s f : Int) (D : List ByteArray) (k : Int) (p : Option Addr) (n c : Nat) (hv : vldB s f D = false) (hD : D.length ≤ 1000000) (w : World) (hr : StrRow w p n D) :
    Calls Try.prog 15 #[.agg #[.int .i64 s, .int .i64 f, .slice p n c], .int .i64 k] w fun e w' => e = .returned (.tuple #[.string ⟨#[]⟩, .bool false]) ∧ Below w.heap.size w w' := by
  have HV := hide (fun (W : World) (hW : StrRow W p n D) => snd_valid_no s f D p n c hv hD W hW)
  have HR := hide hr
  clear hr hv hD
  go_enter Try.func15, Try.ntmps15
  go_wp2_with fail
  have h0 := heap_alloc_new w (.cells #[.int .i64 s, .int .i64 f, .slice p n c] 30)
  have HB := hide (below1 (w := w) (.cells #[.int .i64 s, .int .i64 f, .slice p n c] 30))
  generalize w.alloc (.cells #[.int .i64 s, .int .i64 f, .slice p n c] 30) = W at *
  obtain ⟨c0, c1, c2, -, -, -⟩ := tri_cells h0
  have k0 := fun q : More => cell_more c0 q
  have k1 := fun q : More => cell_more c1 q
  have k2 := fun q : More => cell_more c2 q
  have KR := fun q : More => HR.out.keep (HB.out.trans ((below_more W q).mono HB.out.size))
  have HKR := hide KR
  clear h0 c0 c1 c2 KR
  refine wp_region_grown (by kernel_rfl) (by kernel_rfl) ?_
  repeat (go_big_quiet_step ((first
    | (go_at_call 13; exact more_of (HV.out _ (HKR.out _))))))
  refine wpQuiet_nil ?_
  intro w2 hb2
  have HB2 := hide hb2
  clear hb2 k0 k1 k2
  go_wp2
  go_ret2
  exact ⟨by first | rfl | simp, HB.out.trans (HB2.out.mono HB.out.size)⟩
theorem snd_get_any (s f : Int) (D : List ByteArray) (k : Int) (p : Option Addr) (n c : Nat) (hD : D.length ≤ 1000000) (hc : n ≤ c ∧ c ≤ 9223372036854775807) (w : World) (hr : StrRow w p n D) :
    Calls Try.prog 15 #[.agg #[.int .i64 s, .int .i64 f, .slice p n c], .int .i64 k] w fun e w' => e = .returned (.tuple #[.string (gV s f D k), .bool (gB s f D k)]) ∧ Below w.heap.size w w' := by
  cases hv : vldB s f D
  · have e1 : gB s f D k = false := by unfold gB; rw [hv]; rfl
    have e2 : gV s f D k = ⟨#[]⟩ := if_neg (by rw [e1]; decide)
    rw [e1, e2]
    exact snd_get_bad s f D k p n c hv hD w hr
  · obtain ⟨s', f', rfl, rfl, hok⟩ := vld_ok hv
    by_cases hk : (f' : Int) ≤ k ∧ k < (f' : Int) + (D.length : Int)
    · have e1 : gB (s' : Int) (f' : Int) D k = true := by unfold gB; rw [hv, decide_eq_true hk]; rfl
      obtain ⟨j, hj⟩ : ∃ j : Nat, k = ((f' + j : Nat) : Int) := ⟨(k - f').toNat, by omega⟩
      subst hj
      have hjl : j < D.length := by omega
      have e2 : gV (s' : Int) (f' : Int) D ((f' + j : Nat) : Int) = D[j] := by
        unfold gV
        rw [if_pos e1, show (((f' + j : Nat) : Int) - (f' : Int)).toNat = j by omega, List.getElem?_eq_getElem hjl]
        rfl
      rw [e1, e2]
      exact snd_get_yes s' f' D j p n c hok hc hjl w hr
    · have e1 : gB (s' : Int) (f' : Int) D k = false := by unfold gB; rw [hv, decide_eq_false hk]; rfl
      have e2 : gV (s' : Int) (f' : Int) D k = ⟨#[]⟩ := if_neg (by rw [e1]; decide)
      rw [e1, e2]
      exact snd_get_no s' f' D k p n c hok (by omega) w hr
set_option maxHeartbeats 4000000 in
set_option maxRecDepth 100000 in
theorem sref_get_yes (s f : Nat) (D : List ByteArray) (j : Nat) (p : Option Addr) (n c : Nat) (hok : SOk s f D) (hc : n ≤ c ∧ c ≤ 9223372036854775807) (hj : j < D.length) (w : World) (hr : StrRow w p n D) :
    Calls Try.prog 21 #[.agg #[.int .i64 s, .int .i64 f, .slice p n c], .int .i64 (f + j : Nat)] w fun e w' => e = .returned (.tuple #[.string D[j], .bool true]) ∧ Below w.heap.size w w' := by
  have hnD := hr.1
  have HV := hide (fun (W : World) (hW : StrRow W p n D) => sref_valid s f D p n c hok W hW)
  have hfb : f ≤ 1073741825 := by have := hok.2.2.2.1; omega
  have hnb : n ≤ 1000000 := by have := hok.2.2.1; have := hok.2.1; omega
  have HNX := hide (sref_next s f p n c ⟨by omega, by omega⟩ (by omega))
  obtain ⟨k, hk⟩ : ∃ k, f + j = k := ⟨_, rfl⟩
  have hjn : j < n := by omega
  rw [hk]
  obtain ⟨-, h0 | ⟨b, off, rfl, hcell⟩⟩ := hr
  · omega
  have cj := hcell j hj
  have HR := hide (show StrRow w (some ⟨b, off, none⟩) n D from ⟨hnD, .inr ⟨b, off, rfl, hcell⟩⟩)
  generalize D[j] = y at *
  clear hcell
  have e1 : (k : Int) - (f : Int) = (j : Int) := by omega
  have e2 : (j : Int) < (n : Int) := by omega
  have hin := hide (utc_in_yes (k : Int) (f : Int) ((f : Int) + (n : Int) - 1) ⟨by omega, by omega⟩)
  have HJ := hide hj
  have hkb : k ≤ 1074741825 := by omega
  have hjb : j ≤ 1000000 := by omega
  have HK := hide hk
  clear hnD hj hok hk
  go_enter Try.func21, Try.ntmps21
  go_wp2_with fail
  have h0 := heap_alloc_new w (.cells #[.int .i64 s, .int .i64 f, .slice (some ⟨b, off, none⟩) n c] 30)
  have HB := hide (below1 (w := w) (.cells #[.int .i64 s, .int .i64 f, .slice (some ⟨b, off, none⟩) n c] 30))
  have cj' : (w.alloc (.cells #[.int .i64 s, .int .i64 f, .slice (some ⟨b, off, none⟩) n c] 30)).cell? ⟨b, off + j, none⟩ = some (.string y) := by rw [HB.out.cell (block_lt_of_cell cj)]; exact cj
  generalize w.alloc (.cells #[.int .i64 s, .int .i64 f, .slice (some ⟨b, off, none⟩) n c] 30) = W at *
  obtain ⟨c0, c1, c2, -, -, -⟩ := tri_cells h0
  have k0 := fun q : More => cell_more c0 q
  have k1 := fun q : More => cell_more c1 q
  have k2 := fun q : More => cell_more c2 q
  have H0 := hide h0
  have CJ := hide cj'
  have KR := fun q : More => HR.out.keep (HB.out.trans ((below_more W q).mono HB.out.size))
  have HKR := hide KR
  clear h0 cj cj' c0 c1 c2 KR
  refine wp_region_grown (by kernel_rfl) (by kernel_rfl) ?_
  repeat (go_big_quiet_step ((first
    | (go_at_call 19; exact more_of (HV.out _ (HKR.out _)))
    | (go_at_call 20; exact more_of (HNX.out _))
    | (go_at_call 30; exact more_of_same (hin.out _)))))
  refine wpQuiet_nil ?_
  intro w2 hb2
  have g0 := (hb2.block _ (Array.getElem?_eq_some_iff.1 H0.out).1).trans H0.out
  obtain ⟨c0, c1, c2, -, -, -⟩ := tri_cells g0
  have cj2 : w2.cell? ⟨b, off + j, none⟩ = some (.string y) := by rw [hb2.cell (block_lt_of_cell CJ.out)]; exact CJ.out
  have HB2 := hide hb2
  clear g0 hb2 k0 k1 k2
  go_wp2
  go_ret2
  exact ⟨by first | rfl | simp, HB.out.trans (HB2.out.mono HB.out.size)⟩
set_option maxHeartbeats 4000000 in
set_option maxRecDepth 100000 in
theorem sref_get_no (s f : Nat) (D : List ByteArray) (k : Int) (p : Option Addr) (n c : Nat) (hok : SOk s f D) (hk : k < (f : Int) ∨ (f : Int) + (D.length : Int) ≤ k) (w : World) (hr : StrRow w p n D) :
    Calls Try.prog 21 #[.agg #[.int .i64 s, .int .i64 f, .slice p n c], .int .i64 k] w fun e w' => e = .returned (.tuple #[.string ⟨#[]⟩, .bool false]) ∧ Below w.heap.size w w' := by
  have hnD := hr.1
  have HV := hide (fun (W : World) (hW : StrRow W p n D) => sref_valid s f D p n c hok W hW)
  have hfb : f ≤ 1073741825 := by have := hok.2.2.2.1; omega
  have hnb : n ≤ 1000000 := by have := hok.2.2.1; have := hok.2.1; omega
  have HNX := hide (sref_next s f p n c ⟨by omega, by omega⟩ (by omega))
  have HR := hide hr
  have hin := hide (utc_in_no k (f : Int) ((f : Int) + (n : Int) - 1) (by omega))
  clear hnD hr hk hok
  go_enter Try.func21, Try.ntmps21
  go_wp2_with fail
  have h0 := heap_alloc_new w (.cells #[.int .i64 s, .int .i64 f, .slice p n c] 30)
  have HB := hide (below1 (w := w) (.cells #[.int .i64 s, .int .i64 f, .slice p n c] 30))
  generalize w.alloc (.cells #[.int .i64 s, .int .i64 f, .slice p n c] 30) = W at *
  obtain ⟨c0, c1, c2, -, -, -⟩ := tri_cells h0
  have k0 := fun q : More => cell_more c0 q
  have k1 := fun q : More => cell_more c1 q
  have k2 := fun q : More => cell_more c2 q
  have KR := fun q : More => HR.out.keep (HB.out.trans ((below_more W q).mono HB.out.size))
  have HKR := hide KR
  clear h0 c0 c1 c2 KR
  refine wp_region_grown (by kernel_rfl) (by kernel_rfl) ?_
  repeat (go_big_quiet_step ((first
    | (go_at_call 19; exact more_of (HV.out _ (HKR.out _)))
    | (go_at_call 20; exact more_of (HNX.out _))
    | (go_at_call 30; exact more_of_same (hin.out _)))))
  refine wpQuiet_nil ?_
  intro w2 hb2
  have HB2 := hide hb2
  clear hb2 k0 k1 k2
  go_wp2
  go_ret2
  exact ⟨by first | rfl | simp, HB.out.trans (HB2.out.mono HB.out.size)⟩
set_option maxHeartbeats 4000000 in
set_option maxRecDepth 100000 in
theorem sref_get_bad (s f : Int) (D : List ByteArray) (k : Int) (p : Option Addr) (n c : Nat) (hv : vldB s f D = false) (hD : D.length ≤ 1000000) (w : World) (hr : StrRow w p n D) :
    Calls Try.prog 21 #[.agg #[.int .i64 s, .int .i64 f, .slice p n c], .int .i64 k] w fun e w' => e = .returned (.tuple #[.string ⟨#[]⟩, .bool false]) ∧ Below w.heap.size w w' := by
  have HV := hide (fun (W : World) (hW : StrRow W p n D) => sref_valid_no s f D p n c hv hD W hW)
  have HR := hide hr
  clear hr hv hD
  go_enter Try.func21, Try.ntmps21
  go_wp2_with fail
  have h0 := heap_alloc_new w (.cells #[.int .i64 s, .int .i64 f, .slice p n c] 30)
  have HB := hide (below1 (w := w) (.cells #[.int .i64 s, .int .i64 f, .slice p n c] 30))
  generalize w.alloc (.cells #[.int .i64 s, .int .i64 f, .slice p n c] 30) = W at *
  obtain ⟨c0, c1, c2, -, -, -⟩ := tri_cells h0
  have k0 := fun q : More => cell_more c0 q
  have k1 := fun q : More => cell_more c1 q
  have k2 := fun q : More => cell_more c2 q
  have KR := fun q : More => HR.out.keep (HB.out.trans ((below_more W q).mono HB.out.size))
  have HKR := hide KR
  clear h0 c0 c1 c2 KR
  refine wp_region_grown (by kernel_rfl) (by kernel_rfl) ?_
  repeat (go_big_quiet_step ((first
    | (go_at_call 19; exact more_of (HV.out _ (HKR.out _))))))
  refine wpQuiet_nil ?_
  intro w2 hb2
  have HB2 := hide hb2
  clear hb2 k0 k1 k2
  go_wp2
  go_ret2
  exact ⟨by first | rfl | simp, HB.out.trans (HB2.out.mono HB.out.size)⟩
theorem sref_get_any (s f : Int) (D : List ByteArray) (k : Int) (p : Option Addr) (n c : Nat) (hD : D.length ≤ 1000000) (hc : n ≤ c ∧ c ≤ 9223372036854775807) (w : World) (hr : StrRow w p n D) :
    Calls Try.prog 21 #[.agg #[.int .i64 s, .int .i64 f, .slice p n c], .int .i64 k] w fun e w' => e = .returned (.tuple #[.string (gV s f D k), .bool (gB s f D k)]) ∧ Below w.heap.size w w' := by
  cases hv : vldB s f D
  · have e1 : gB s f D k = false := by unfold gB; rw [hv]; rfl
    have e2 : gV s f D k = ⟨#[]⟩ := if_neg (by rw [e1]; decide)
    rw [e1, e2]
    exact sref_get_bad s f D k p n c hv hD w hr
  · obtain ⟨s', f', rfl, rfl, hok⟩ := vld_ok hv
    by_cases hk : (f' : Int) ≤ k ∧ k < (f' : Int) + (D.length : Int)
    · have e1 : gB (s' : Int) (f' : Int) D k = true := by unfold gB; rw [hv, decide_eq_true hk]; rfl
      obtain ⟨j, hj⟩ : ∃ j : Nat, k = ((f' + j : Nat) : Int) := ⟨(k - f').toNat, by omega⟩
      subst hj
      have hjl : j < D.length := by omega
      have e2 : gV (s' : Int) (f' : Int) D ((f' + j : Nat) : Int) = D[j] := by
        unfold gV
        rw [if_pos e1, show (((f' + j : Nat) : Int) - (f' : Int)).toNat = j by omega, List.getElem?_eq_getElem hjl]
        rfl
      rw [e1, e2]
      exact sref_get_yes s' f' D j p n c hok hc hjl w hr
    · have e1 : gB (s' : Int) (f' : Int) D k = false := by unfold gB; rw [hv, decide_eq_false hk]; rfl
      have e2 : gV (s' : Int) (f' : Int) D k = ⟨#[]⟩ := if_neg (by rw [e1]; decide)
      rw [e1, e2]
      exact sref_get_no s' f' D k p n c hok (by omega) w hr
end Go.Proofs.Ytpniokkllkjhhaa
