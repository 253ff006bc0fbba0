/- The walks of the sender and its reference: the errors of Push, New of any size. (written by gen_sndany.py) -/
import Derived.Test.YtpniokkllkjhhaaSndAnyB
import Derived.Test.YtpniokkllkjhhaaSndRefC
namespace Go.Proofs.Ytpniokkllkjhhaa
open Go.RowKit
set_option linter.unusedVariables false
set_option linter.unusedSimpArgs false
/-- Whether a message is kept. -/
def pushOK (s f : Int) (D : List ByteArray) (x : ByteArray) : Bool := vldB s f D && (decide (x.size ≤ 4064) && decide (f + (D.length : Int) ≤ 1073741824))
def pS (s f : Int) (D : List ByteArray) (x : ByteArray) : Int := if pushOK s f D x = true then s else 0
def pF (s f : Int) (D : List ByteArray) (x : ByteArray) : Int := if pushOK s f D x = true then (if (D.length : Int) = s then f + 1 else f) else 0
def pD (s f : Int) (D : List ByteArray) (x : ByteArray) : List ByteArray := if pushOK s f D x = true then (if (D.length : Int) = s then (D ++ [x]).drop 1 else D ++ [x]) else []
def pN (s f : Int) (D : List ByteArray) (x : ByteArray) : Int := if pushOK s f D x = true then f + (D.length : Int) else 0
def pE (s f : Int) (D : List ByteArray) (x : ByteArray) : Int := if vldB s f D = false then 1 else if pushOK s f D x = true then 0 else 8
def nE (size : Int) : Int := if 1 ≤ size ∧ size ≤ 256 then 0 else 2
def nS (size : Int) : Int := if 1 ≤ size ∧ size ≤ 256 then size else 0

theorem snd_new_any (size : Int) (w : World) :
    Calls Try.prog 10 #[.int .i64 size] w fun e w' => e = .returned (.tuple #[.agg #[.int .i64 (nS size), .int .i64 0, .slice none 0 0], .int .i64 (nE size)]) ∧ Below w.heap.size w w' := by
  by_cases h : 1 ≤ size ∧ size ≤ 256
  · obtain ⟨s, rfl⟩ : ∃ s : Nat, size = (s : Int) := ⟨size.toNat, by omega⟩
    have e1 : nS (s : Int) = s := if_pos h
    have e2 : nE (s : Int) = 0 := if_pos h
    rw [e1, e2]
    exact snd_new s ⟨by omega, by omega⟩ w
  · have e1 : nS size = 0 := if_neg h
    have e2 : nE size = 2 := if_neg h
    rw [e1, e2]
    have Q := hide (snd_in_no size 1 256 (by omega))
    clear h e1 e2
    go_enter Try.func10, Try.ntmps10
    go_wp2_with (first
      | (go_at_call 27; (with_reducible refine (Q.out _).mono ?_); rintro e w1 ⟨rfl, rfl⟩))
    (try simp only [Exit.inBlock, Exit.then])
    refine bodyPost_ret (v := .tuple #[.agg #[.int .i64 0, .int .i64 0, .slice none 0 0], .int .i64 2]) (by simp [results, Try.results10, go_sem]) rfl ⟨rfl, ?_⟩
    exact below1 _
set_option maxHeartbeats 2000000 in
theorem snd_push_bad (s f : Int) (D : List ByteArray) (x : ByteArray) (p : Option Addr) (n c : Nat) (hv : vldB s f D = false) (hD : D.length ≤ 1000000) (w : World) (hr : StrRow w p n D) :
    Calls Try.prog 12 #[.agg #[.int .i64 s, .int .i64 f, .slice p n c], .string x] w fun e w' => e = .returned (.tuple #[.agg #[.int .i64 0, .int .i64 0, .slice none 0 0], .int .i64 0, .int .i64 1]) ∧ Below w.heap.size w w' := by
  have HV := hide (fun (W : World) (hW : StrRow W p n D) => snd_valid_no s f D p n c hv hD W hW)
  have HR := hide hr
  have G0 := hide (pair_alloc (heap_alloc_new w (.cells #[.int .i64 s, .int .i64 f, .slice p n c] 30)) (.cells #[.int .i64 0, .int .i64 0, .slice none 0 0] 30))
  have G1 := hide (new_at (w := w.alloc (.cells #[.int .i64 s, .int .i64 f, .slice p n c] 30)) (.cells #[.int .i64 0, .int .i64 0, .slice none 0 0] 30) (g := w.heap.size + 1) (by simp))
  have HB := hide (below2 (w := w) (.cells #[.int .i64 s, .int .i64 f, .slice p n c] 30) (.cells #[.int .i64 0, .int .i64 0, .slice none 0 0] 30))
  clear hr hv hD
  go_enter Try.func12, Try.ntmps12
  go_wp2_with (first
    | (go_at_call 13; (with_reducible refine (HV.out _ ?_).mono ?_); (focus exact HR.out.keep HB.out); rintro e w1 ⟨rfl, hb⟩; (have G0 := hide ((hb.block _ (Array.getElem?_eq_some_iff.1 G0.out).1).trans G0.out)); (have G1 := hide ((hb.block _ (Array.getElem?_eq_some_iff.1 G1.out).1).trans G1.out)); (have HB := hide (HB.out.trans (hb.mono HB.out.size))); (obtain ⟨c0, c1, c2, f0, f1, f2⟩ := tri_cells G0.out); (obtain ⟨e0, e1, e2, k0, k1, k2⟩ := tri_cells G1.out); clear hb))
  (try simp only [Exit.inBlock, Exit.then])
  have HZ := hide (fun x y z => tri_set_cells G1.out x y z)
  first
    | (refine bodyPost_ret (v := .tuple #[.agg #[.int .i64 0, .int .i64 0, .slice none 0 0], .int .i64 0, .int .i64 1]) (by simp [results, Try.results12, go_sem, e0, e1, e2]) rfl ⟨rfl, ?_⟩
       exact HB.out)
    | (refine bodyPost_ret (v := .tuple #[.agg #[.int .i64 0, .int .i64 0, .slice none 0 0], .int .i64 0, .int .i64 1]) (by simp [results, Try.results12, go_sem, (HZ.out (.int .i64 0) (.int .i64 0) (.slice none 0 0)).1, (HZ.out (.int .i64 0) (.int .i64 0) (.slice none 0 0)).2.1, (HZ.out (.int .i64 0) (.int .i64 0) (.slice none 0 0)).2.2]) rfl ⟨rfl, ?_⟩
       exact ((HB.out.setCell (by simp) _).setCell (by simp) _).setCell (by simp) _)
set_option maxHeartbeats 2000000 in
theorem snd_push_limit (s f : Nat) (D : List ByteArray) (x : ByteArray) (p : Option Addr) (n c : Nat) (hok : SOk s f D) (hbad : 4064 < x.size ∨ (x.size ≤ 4064 ∧ f + D.length = 1073741825)) (w : World) (hr : StrRow w p n D) :
    Calls Try.prog 12 #[.agg #[.int .i64 s, .int .i64 f, .slice p n c], .string x] w fun e w' => e = .returned (.tuple #[.agg #[.int .i64 0, .int .i64 0, .slice none 0 0], .int .i64 0, .int .i64 8]) ∧ Below w.heap.size w w' := by
  have hnD := hr.1
  have HV := hide (fun (W : World) (hW : StrRow W p n D) => snd_valid s f D p n c hok W hW)
  have HNX : Hid (∀ W, Calls Try.prog 14 #[.agg #[.int .i64 s, .int .i64 f, .slice p n c]] W fun e w' => e = .returned (.int .i64 (f + D.length : Nat)) ∧ Below W.heap.size W w') := fun W => by
    have q := snd_next s f p n c (by have := hok.2.2.2.1; omega) (by have := hok.2.2.1; have := hok.2.1; omega) W
    rw [show ((f + D.length : Nat) : Int) = (f : Int) + ((n : Nat) : Int) by have := hnD; omega]
    exact q
  have HR := hide hr
  have G0 := hide (pair_alloc (heap_alloc_new w (.cells #[.int .i64 s, .int .i64 f, .slice p n c] 30)) (.cells #[.int .i64 0, .int .i64 0, .slice none 0 0] 30))
  have G1 := hide (new_at (w := w.alloc (.cells #[.int .i64 s, .int .i64 f, .slice p n c] 30)) (.cells #[.int .i64 0, .int .i64 0, .slice none 0 0] 30) (g := w.heap.size + 1) (by simp))
  have HB := hide (below2 (w := w) (.cells #[.int .i64 s, .int .i64 f, .slice p n c] 30) (.cells #[.int .i64 0, .int .i64 0, .slice none 0 0] 30))
  obtain ⟨q, hq⟩ : ∃ q : Nat, f + D.length = q := ⟨_, rfl⟩
  rw [hq] at HNX hbad
  have hqb : q ≤ 1073741825 := by have := hok.2.2.2.1; omega
  clear hr hok hnD hq
  rcases hbad with hx | ⟨hx, hx2⟩
  · have dx : decide ((4064 : Int) < (x.size : Int)) = true := by simp; omega
    have dx' : decide (4064 < x.size) = true := by simp; omega
    clear hx
    go_enter Try.func12, Try.ntmps12
    go_wp2_with (first
      | (go_at_call 13; (with_reducible refine (HV.out _ ?_).mono ?_); (focus exact HR.out.keep HB.out); rintro e w1 ⟨rfl, hb⟩; (have G0 := hide ((hb.block _ (Array.getElem?_eq_some_iff.1 G0.out).1).trans G0.out)); (have G1 := hide ((hb.block _ (Array.getElem?_eq_some_iff.1 G1.out).1).trans G1.out)); (have HB := hide (HB.out.trans (hb.mono HB.out.size))); (obtain ⟨c0, c1, c2, f0, f1, f2⟩ := tri_cells G0.out); (obtain ⟨e0, e1, e2, k0, k1, k2⟩ := tri_cells G1.out); clear hb)
      | (go_at_call 14; (with_reducible refine (HNX.out _).mono ?_); rintro e w2 ⟨rfl, hb⟩; (have G0 := hide ((hb.block _ (Array.getElem?_eq_some_iff.1 G0.out).1).trans G0.out)); (have G1 := hide ((hb.block _ (Array.getElem?_eq_some_iff.1 G1.out).1).trans G1.out)); (have HB := hide (HB.out.trans (hb.mono HB.out.size))); clear c0 c1 c2 f0 f1 f2 e0 e1 e2 k0 k1 k2; (obtain ⟨c0, c1, c2, f0, f1, f2⟩ := tri_cells G0.out); (obtain ⟨e0, e1, e2, k0, k1, k2⟩ := tri_cells G1.out); clear hb))
    (try simp only [Exit.inBlock, Exit.then])
    refine bodyPost_ret (v := .tuple #[.agg #[.int .i64 0, .int .i64 0, .slice none 0 0], .int .i64 0, .int .i64 8]) (by simp [results, Try.results12, go_sem, e0, e1, e2]) rfl ⟨rfl, ?_⟩
    exact ((HB.out.setCell (by simp) _).setCell (by simp) _).setCell (by simp) _
  · have dx : decide ((4064 : Int) < (x.size : Int)) = false := by simp; omega
    have dx' : decide (4064 < x.size) = false := by simp; omega
    subst hx2
    clear hx
    go_enter Try.func12, Try.ntmps12
    go_wp2_with (first
      | (go_at_call 13; (with_reducible refine (HV.out _ ?_).mono ?_); (focus exact HR.out.keep HB.out); rintro e w1 ⟨rfl, hb⟩; (have G0 := hide ((hb.block _ (Array.getElem?_eq_some_iff.1 G0.out).1).trans G0.out)); (have G1 := hide ((hb.block _ (Array.getElem?_eq_some_iff.1 G1.out).1).trans G1.out)); (have HB := hide (HB.out.trans (hb.mono HB.out.size))); (obtain ⟨c0, c1, c2, f0, f1, f2⟩ := tri_cells G0.out); (obtain ⟨e0, e1, e2, k0, k1, k2⟩ := tri_cells G1.out); clear hb)
      | (go_at_call 14; (with_reducible refine (HNX.out _).mono ?_); rintro e w2 ⟨rfl, hb⟩; (have G0 := hide ((hb.block _ (Array.getElem?_eq_some_iff.1 G0.out).1).trans G0.out)); (have G1 := hide ((hb.block _ (Array.getElem?_eq_some_iff.1 G1.out).1).trans G1.out)); (have HB := hide (HB.out.trans (hb.mono HB.out.size))); clear c0 c1 c2 f0 f1 f2 e0 e1 e2 k0 k1 k2; (obtain ⟨c0, c1, c2, f0, f1, f2⟩ := tri_cells G0.out); (obtain ⟨e0, e1, e2, k0, k1, k2⟩ := tri_cells G1.out); clear hb))
    (try simp only [Exit.inBlock, Exit.then])
    refine bodyPost_ret (v := .tuple #[.agg #[.int .i64 0, .int .i64 0, .slice none 0 0], .int .i64 0, .int .i64 8]) (by simp [results, Try.results12, go_sem, e0, e1, e2]) rfl ⟨rfl, ?_⟩
    exact ((HB.out.setCell (by simp) _).setCell (by simp) _).setCell (by simp) _
theorem snd_push_any (s f : Int) (D : List ByteArray) (x : ByteArray) (p : Option Addr) (n c : Nat) (hD : D.length ≤ 1000000) (hc : n ≤ c ∧ c ≤ 9223372036854775807) (hp : p = none → n = 0 ∧ c = 0) (w : World) (hr : StrRow w p n D) :
    Calls Try.prog 12 #[.agg #[.int .i64 s, .int .i64 f, .slice p n c], .string x] w fun e w' => (∃ p' n' c', e = .returned (.tuple #[.agg #[.int .i64 (pS s f D x), .int .i64 (pF s f D x), .slice p' n' c'], .int .i64 (pN s f D x), .int .i64 (pE s f D x)]) ∧ StrRow w' p' n' (pD s f D x)) ∧ Below w.heap.size w w' := by
  cases hv : vldB s f D
  · have ho : ¬ pushOK s f D x = true := by unfold pushOK; rw [hv]; simp
    rw [pS, pF, pN, pE, pD, if_neg ho, if_neg ho, if_neg ho, if_neg ho, if_neg ho, if_pos hv]
    exact (snd_push_bad s f D x p n c hv hD w hr).mono fun _ _ ⟨h1, h2⟩ => ⟨⟨none, 0, 0, h1, rfl, .inl rfl⟩, h2⟩
  · have hv' : ¬ vldB s f D = false := by rw [hv]; decide
    obtain ⟨s', f', rfl, rfl, hok⟩ := vld_ok hv
    by_cases ho : pushOK (s' : Int) (f' : Int) D x = true
    · rw [pS, pF, pN, pE, pD, if_pos ho, if_pos ho, if_pos ho, if_pos ho, if_neg hv', if_pos ho]
      have hx : x.size ≤ 4064 := by unfold pushOK at ho; simp at ho; exact ho.2.1
      have hf : (f' : Int) + (D.length : Int) ≤ 1073741824 := by unfold pushOK at ho; simp at ho; exact ho.2.2
      have q := snd_push s' f' D x p n c hok hx (by omega) hc w hr
      have e1 : ((pushF s' f' D : Nat) : Int) = if (D.length : Int) = (s' : Int) then (f' : Int) + 1 else (f' : Int) := by
        unfold pushF
        by_cases h : D.length = s'
        · rw [if_pos h, if_pos (by omega)]; rfl
        · rw [if_neg h, if_neg (by omega)]
      have e2 : pushD s' D x = if (D.length : Int) = (s' : Int) then (D ++ [x]).drop 1 else D ++ [x] := by
        unfold pushD
        by_cases h : D.length = s'
        · rw [if_pos h, if_pos (by omega)]
        · rw [if_neg h, if_neg (by omega)]
      rw [e1, e2] at q
      exact q.mono fun _ _ ⟨⟨b', o', n', c', h1, h2, h3, h4, h5⟩, h6⟩ => ⟨⟨_, _, _, h1, h3⟩, h6⟩
    · rw [pS, pF, pN, pE, pD, if_neg ho, if_neg ho, if_neg ho, if_neg ho, if_neg hv', if_neg ho]
      have hb : 4064 < x.size ∨ (x.size ≤ 4064 ∧ f' + D.length = 1073741825) := by
        have h4 := hok.2.2.2.1
        by_cases hx : x.size ≤ 4064
        · refine .inr ⟨hx, ?_⟩
          by_cases hf : (f' : Int) + (D.length : Int) ≤ 1073741824
          · exact absurd (show pushOK (s' : Int) (f' : Int) D x = true by unfold pushOK; rw [hv, decide_eq_true hx, decide_eq_true hf]; rfl) ho
          · omega
        · exact .inl (by omega)
      exact (snd_push_limit s' f' D x p n c hok hb w hr).mono fun _ _ ⟨h1, h2⟩ => ⟨⟨none, 0, 0, h1, rfl, .inl rfl⟩, h2⟩
theorem sref_new_any (size : Int) (w : World) :
    Calls Try.prog 25 #[.int .i64 size] w fun e w' => e = .returned (.tuple #[.agg #[.int .i64 (nS size), .int .i64 0, .slice none 0 0], .int .i64 (nE size)]) ∧ Below w.heap.size w w' := by
  by_cases h : 1 ≤ size ∧ size ≤ 256
  · obtain ⟨s, rfl⟩ : ∃ s : Nat, size = (s : Int) := ⟨size.toNat, by omega⟩
    have e1 : nS (s : Int) = s := if_pos h
    have e2 : nE (s : Int) = 0 := if_pos h
    rw [e1, e2]
    exact sref_new s ⟨by omega, by omega⟩ w
  · have e1 : nS size = 0 := if_neg h
    have e2 : nE size = 2 := if_neg h
    rw [e1, e2]
    have Q := hide (utc_in_no size 1 256 (by omega))
    clear h e1 e2
    go_enter Try.func25, Try.ntmps25
    go_wp2_with (first
      | (go_at_call 30; (with_reducible refine (Q.out _).mono ?_); rintro e w1 ⟨rfl, rfl⟩))
    (try simp only [Exit.inBlock, Exit.then])
    refine bodyPost_ret (v := .tuple #[.agg #[.int .i64 0, .int .i64 0, .slice none 0 0], .int .i64 2]) (by simp [results, Try.results25, go_sem]) rfl ⟨rfl, ?_⟩
    exact below1 _
set_option maxHeartbeats 2000000 in
theorem sref_push_bad (s f : Int) (D : List ByteArray) (x : ByteArray) (p : Option Addr) (n c : Nat) (hv : vldB s f D = false) (hD : D.length ≤ 1000000) (w : World) (hr : StrRow w p n D) :
    Calls Try.prog 17 #[.agg #[.int .i64 s, .int .i64 f, .slice p n c], .string x] w fun e w' => e = .returned (.tuple #[.agg #[.int .i64 0, .int .i64 0, .slice none 0 0], .int .i64 0, .int .i64 1]) ∧ Below w.heap.size w w' := by
  have HV := hide (fun (W : World) (hW : StrRow W p n D) => sref_valid_no s f D p n c hv hD W hW)
  have HR := hide hr
  have G0 := hide (pair_alloc (heap_alloc_new w (.cells #[.int .i64 s, .int .i64 f, .slice p n c] 30)) (.cells #[.int .i64 0, .int .i64 0, .slice none 0 0] 30))
  have G1 := hide (new_at (w := w.alloc (.cells #[.int .i64 s, .int .i64 f, .slice p n c] 30)) (.cells #[.int .i64 0, .int .i64 0, .slice none 0 0] 30) (g := w.heap.size + 1) (by simp))
  have HB := hide (below2 (w := w) (.cells #[.int .i64 s, .int .i64 f, .slice p n c] 30) (.cells #[.int .i64 0, .int .i64 0, .slice none 0 0] 30))
  clear hr hv hD
  go_enter Try.func17, Try.ntmps17
  go_wp2_with (first
    | (go_at_call 19; (with_reducible refine (HV.out _ ?_).mono ?_); (focus exact HR.out.keep HB.out); rintro e w1 ⟨rfl, hb⟩; (have G0 := hide ((hb.block _ (Array.getElem?_eq_some_iff.1 G0.out).1).trans G0.out)); (have G1 := hide ((hb.block _ (Array.getElem?_eq_some_iff.1 G1.out).1).trans G1.out)); (have HB := hide (HB.out.trans (hb.mono HB.out.size))); (obtain ⟨c0, c1, c2, f0, f1, f2⟩ := tri_cells G0.out); (obtain ⟨e0, e1, e2, k0, k1, k2⟩ := tri_cells G1.out); clear hb))
  (try simp only [Exit.inBlock, Exit.then])
  have HZ := hide (fun x y z => tri_set_cells G1.out x y z)
  first
    | (refine bodyPost_ret (v := .tuple #[.agg #[.int .i64 0, .int .i64 0, .slice none 0 0], .int .i64 0, .int .i64 1]) (by simp [results, Try.results17, go_sem, e0, e1, e2]) rfl ⟨rfl, ?_⟩
       exact HB.out)
    | (refine bodyPost_ret (v := .tuple #[.agg #[.int .i64 0, .int .i64 0, .slice none 0 0], .int .i64 0, .int .i64 1]) (by simp [results, Try.results17, go_sem, (HZ.out (.int .i64 0) (.int .i64 0) (.slice none 0 0)).1, (HZ.out (.int .i64 0) (.int .i64 0) (.slice none 0 0)).2.1, (HZ.out (.int .i64 0) (.int .i64 0) (.slice none 0 0)).2.2]) rfl ⟨rfl, ?_⟩
       exact ((HB.out.setCell (by simp) _).setCell (by simp) _).setCell (by simp) _)
set_option maxHeartbeats 2000000 in
theorem sref_push_limit (s f : Nat) (D : List ByteArray) (x : ByteArray) (p : Option Addr) (n c : Nat) (hok : SOk s f D) (hbad : 4064 < x.size ∨ (x.size ≤ 4064 ∧ f + D.length = 1073741825)) (w : World) (hr : StrRow w p n D) :
    Calls Try.prog 17 #[.agg #[.int .i64 s, .int .i64 f, .slice p n c], .string x] w fun e w' => e = .returned (.tuple #[.agg #[.int .i64 0, .int .i64 0, .slice none 0 0], .int .i64 0, .int .i64 8]) ∧ Below w.heap.size w w' := by
  have hnD := hr.1
  have HV := hide (fun (W : World) (hW : StrRow W p n D) => sref_valid s f D p n c hok W hW)
  have HNX : Hid (∀ W, Calls Try.prog 20 #[.agg #[.int .i64 s, .int .i64 f, .slice p n c]] W fun e w' => e = .returned (.int .i64 (f + D.length : Nat)) ∧ Below W.heap.size W w') := fun W => by
    have q := sref_next s f p n c (by have := hok.2.2.2.1; omega) (by have := hok.2.2.1; have := hok.2.1; omega) W
    rw [show ((f + D.length : Nat) : Int) = (f : Int) + ((n : Nat) : Int) by have := hnD; omega]
    exact q
  have HR := hide hr
  have G0 := hide (pair_alloc (heap_alloc_new w (.cells #[.int .i64 s, .int .i64 f, .slice p n c] 30)) (.cells #[.int .i64 0, .int .i64 0, .slice none 0 0] 30))
  have G1 := hide (new_at (w := w.alloc (.cells #[.int .i64 s, .int .i64 f, .slice p n c] 30)) (.cells #[.int .i64 0, .int .i64 0, .slice none 0 0] 30) (g := w.heap.size + 1) (by simp))
  have HB := hide (below2 (w := w) (.cells #[.int .i64 s, .int .i64 f, .slice p n c] 30) (.cells #[.int .i64 0, .int .i64 0, .slice none 0 0] 30))
  obtain ⟨q, hq⟩ : ∃ q : Nat, f + D.length = q := ⟨_, rfl⟩
  rw [hq] at HNX hbad
  have hqb : q ≤ 1073741825 := by have := hok.2.2.2.1; omega
  clear hr hok hnD hq
  rcases hbad with hx | ⟨hx, hx2⟩
  · have dx : decide ((4064 : Int) < (x.size : Int)) = true := by simp; omega
    have dx' : decide (4064 < x.size) = true := by simp; omega
    clear hx
    go_enter Try.func17, Try.ntmps17
    go_wp2_with (first
      | (go_at_call 19; (with_reducible refine (HV.out _ ?_).mono ?_); (focus exact HR.out.keep HB.out); rintro e w1 ⟨rfl, hb⟩; (have G0 := hide ((hb.block _ (Array.getElem?_eq_some_iff.1 G0.out).1).trans G0.out)); (have G1 := hide ((hb.block _ (Array.getElem?_eq_some_iff.1 G1.out).1).trans G1.out)); (have HB := hide (HB.out.trans (hb.mono HB.out.size))); (obtain ⟨c0, c1, c2, f0, f1, f2⟩ := tri_cells G0.out); (obtain ⟨e0, e1, e2, k0, k1, k2⟩ := tri_cells G1.out); clear hb)
      | (go_at_call 20; (with_reducible refine (HNX.out _).mono ?_); rintro e w2 ⟨rfl, hb⟩; (have G0 := hide ((hb.block _ (Array.getElem?_eq_some_iff.1 G0.out).1).trans G0.out)); (have G1 := hide ((hb.block _ (Array.getElem?_eq_some_iff.1 G1.out).1).trans G1.out)); (have HB := hide (HB.out.trans (hb.mono HB.out.size))); clear c0 c1 c2 f0 f1 f2 e0 e1 e2 k0 k1 k2; (obtain ⟨c0, c1, c2, f0, f1, f2⟩ := tri_cells G0.out); (obtain ⟨e0, e1, e2, k0, k1, k2⟩ := tri_cells G1.out); clear hb))
    (try simp only [Exit.inBlock, Exit.then])
    refine bodyPost_ret (v := .tuple #[.agg #[.int .i64 0, .int .i64 0, .slice none 0 0], .int .i64 0, .int .i64 8]) (by simp [results, Try.results17, go_sem, e0, e1, e2]) rfl ⟨rfl, ?_⟩
    exact ((HB.out.setCell (by simp) _).setCell (by simp) _).setCell (by simp) _
  · have dx : decide ((4064 : Int) < (x.size : Int)) = false := by simp; omega
    have dx' : decide (4064 < x.size) = false := by simp; omega
    subst hx2
    clear hx
    go_enter Try.func17, Try.ntmps17
    go_wp2_with (first
      | (go_at_call 19; (with_reducible refine (HV.out _ ?_).mono ?_); (focus exact HR.out.keep HB.out); rintro e w1 ⟨rfl, hb⟩; (have G0 := hide ((hb.block _ (Array.getElem?_eq_some_iff.1 G0.out).1).trans G0.out)); (have G1 := hide ((hb.block _ (Array.getElem?_eq_some_iff.1 G1.out).1).trans G1.out)); (have HB := hide (HB.out.trans (hb.mono HB.out.size))); (obtain ⟨c0, c1, c2, f0, f1, f2⟩ := tri_cells G0.out); (obtain ⟨e0, e1, e2, k0, k1, k2⟩ := tri_cells G1.out); clear hb)
      | (go_at_call 20; (with_reducible refine (HNX.out _).mono ?_); rintro e w2 ⟨rfl, hb⟩; (have G0 := hide ((hb.block _ (Array.getElem?_eq_some_iff.1 G0.out).1).trans G0.out)); (have G1 := hide ((hb.block _ (Array.getElem?_eq_some_iff.1 G1.out).1).trans G1.out)); (have HB := hide (HB.out.trans (hb.mono HB.out.size))); clear c0 c1 c2 f0 f1 f2 e0 e1 e2 k0 k1 k2; (obtain ⟨c0, c1, c2, f0, f1, f2⟩ := tri_cells G0.out); (obtain ⟨e0, e1, e2, k0, k1, k2⟩ := tri_cells G1.out); clear hb))
    (try simp only [Exit.inBlock, Exit.then])
    refine bodyPost_ret (v := .tuple #[.agg #[.int .i64 0, .int .i64 0, .slice none 0 0], .int .i64 0, .int .i64 8]) (by simp [results, Try.results17, go_sem, e0, e1, e2]) rfl ⟨rfl, ?_⟩
    exact ((HB.out.setCell (by simp) _).setCell (by simp) _).setCell (by simp) _
theorem sref_push_any (s f : Int) (D : List ByteArray) (x : ByteArray) (p : Option Addr) (n c : Nat) (hD : D.length ≤ 1000000) (hc : n ≤ c ∧ c ≤ 9223372036854775807) (hp : p = none → n = 0 ∧ c = 0) (w : World) (hr : StrRow w p n D) :
    Calls Try.prog 17 #[.agg #[.int .i64 s, .int .i64 f, .slice p n c], .string x] w fun e w' => (∃ p' n' c', e = .returned (.tuple #[.agg #[.int .i64 (pS s f D x), .int .i64 (pF s f D x), .slice p' n' c'], .int .i64 (pN s f D x), .int .i64 (pE s f D x)]) ∧ StrRow w' p' n' (pD s f D x)) ∧ Below w.heap.size w w' := by
  cases hv : vldB s f D
  · have ho : ¬ pushOK s f D x = true := by unfold pushOK; rw [hv]; simp
    rw [pS, pF, pN, pE, pD, if_neg ho, if_neg ho, if_neg ho, if_neg ho, if_neg ho, if_pos hv]
    exact (sref_push_bad s f D x p n c hv hD w hr).mono fun _ _ ⟨h1, h2⟩ => ⟨⟨none, 0, 0, h1, rfl, .inl rfl⟩, h2⟩
  · have hv' : ¬ vldB s f D = false := by rw [hv]; decide
    obtain ⟨s', f', rfl, rfl, hok⟩ := vld_ok hv
    by_cases ho : pushOK (s' : Int) (f' : Int) D x = true
    · rw [pS, pF, pN, pE, pD, if_pos ho, if_pos ho, if_pos ho, if_pos ho, if_neg hv', if_pos ho]
      have hx : x.size ≤ 4064 := by unfold pushOK at ho; simp at ho; exact ho.2.1
      have hf : (f' : Int) + (D.length : Int) ≤ 1073741824 := by unfold pushOK at ho; simp at ho; exact ho.2.2
      have q : Calls Try.prog 17 #[.agg #[.int .i64 s', .int .i64 f', .slice p n c], .string x] w fun e w' => (∃ b' o' n' c', e = .returned (.tuple #[.agg #[.int .i64 s', .int .i64 (pushF s' f' D : Nat), .slice (some ⟨b', o', none⟩) n' c'], .int .i64 ((f' + D.length : Nat) : Int), .int .i64 0]) ∧ w.heap.size ≤ b' ∧ StrRow w' (some ⟨b', o', none⟩) n' (pushD s' D x) ∧ n' ≤ c' ∧ c' ≤ 9223372036854775807) ∧ Below w.heap.size w w' := by
        cases p with
        | none =>
          obtain ⟨rfl, rfl⟩ := hp rfl
          exact sref_push_none s' f' D x hok hx (by omega) w hr
        | some ad => exact sref_push_some s' f' D x ad n c hok hx (by omega) hc w hr
      have e1 : ((pushF s' f' D : Nat) : Int) = if (D.length : Int) = (s' : Int) then (f' : Int) + 1 else (f' : Int) := by
        unfold pushF
        by_cases h : D.length = s'
        · rw [if_pos h, if_pos (by omega)]; rfl
        · rw [if_neg h, if_neg (by omega)]
      have e2 : pushD s' D x = if (D.length : Int) = (s' : Int) then (D ++ [x]).drop 1 else D ++ [x] := by
        unfold pushD
        by_cases h : D.length = s'
        · rw [if_pos h, if_pos (by omega)]
        · rw [if_neg h, if_neg (by omega)]
      rw [e1, e2] at q
      exact q.mono fun _ _ ⟨⟨b', o', n', c', h1, h2, h3, h4, h5⟩, h6⟩ => ⟨⟨_, _, _, h1, h3⟩, h6⟩
    · rw [pS, pF, pN, pE, pD, if_neg ho, if_neg ho, if_neg ho, if_neg ho, if_neg hv', if_neg ho]
      have hb : 4064 < x.size ∨ (x.size ≤ 4064 ∧ f' + D.length = 1073741825) := by
        have h4 := hok.2.2.2.1
        by_cases hx : x.size ≤ 4064
        · refine .inr ⟨hx, ?_⟩
          by_cases hf : (f' : Int) + (D.length : Int) ≤ 1073741824
          · exact absurd (show pushOK (s' : Int) (f' : Int) D x = true by unfold pushOK; rw [hv, decide_eq_true hx, decide_eq_true hf]; rfl) ho
          · omega
        · exact .inl (by omega)
      exact (sref_push_limit s' f' D x p n c hok hb w hr).mono fun _ _ ⟨h1, h2⟩ => ⟨⟨none, 0, 0, h1, rfl, .inl rfl⟩, h2⟩
end Go.Proofs.Ytpniokkllkjhhaa
