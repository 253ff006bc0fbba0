/- The walk of the statement SenderAnswers. -/
import Derived.Test.YtpniokkllkjhhaaSndMade
import Derived.Test.YtpniokkllkjhhaaSndAnsMath
import Derived.Test.YtpniokkllkjhhaaSndSane
namespace Go.Proofs.Ytpniokkllkjhhaa
open Go.RowKit
set_option linter.unusedVariables false
set_option linter.unusedSimpArgs false
set_option maxHeartbeats 8000000 in
set_option maxRecDepth 100000 in
theorem sender_answers (a : Option Addr) (len cap : Nat) (mo : Int) (W : World) (hr : IntRow W a len) (hmo : 0 ≤ mo ∧ mo ≤ 255) :
    Calls Try.prog 5 #[.slice a len cap, .int .u8 mo] W fun e w' => e = .returned (.bool true) ∧ Below W.heap.size W w' := by
  have QS := hide (fun w => snd_sane w)
  have q1 := fun w => made_light a len cap hr.1 w
  obtain ⟨m0, m1⟩ := hmo
  by_cases hl : len ≤ 500
  · rw [decide_eq_true hl] at q1
    have Q1 := hide q1
    have Q2 := hide (made_roll a len cap W hr)
    obtain ⟨mm, hmm⟩ : ∃ mm : Nat, mo % 6 = (mm : Int) := ⟨(mo % 6).toNat, by omega⟩
    have hm5 : mm ≤ 5 := by omega
    clear q1 hl hr
    go_enter Try.func5, Try.ntmps5
    go_wp2_with (first
      | (go_at_call 6; (with_reducible refine (Q1.out _).mono ?_); rintro e w1 ⟨rfl, rfl⟩)
      | (go_at_call 8; (with_reducible refine (Q2.out).mono ?_); rintro e w1 ⟨rfl, hd1⟩; (have HD := hide hd1); clear hd1))
    go_at_call 16
    refine (made_sender _ HD.out).mono ?_
    rintro e w2 ⟨⟨s, X, p, n, c, rfl, hs1, hs2, hX, hXs, hst, hc1, hc2, hpb⟩, hd2, hr2⟩
    have HD2 := hide hd2
    have hWl := HD.out.lt
    have HST := hide hst
    have HXS := hide hXs
    have HPB := hide (fun b off (hp : p = some ⟨b, off, none⟩) => (show b ≠ W.heap.size from by have := hpb b off hp; omega))
    clear hd2 hr2 hst hpb Q1 Q2 HD hXs
    go_wp2_with fail
    go_at_call 22
    refine (made_spans _ HD2.out).mono ?_
    rintro e w3 ⟨⟨L, pl, cl, rfl, hL5, hLs, hsp⟩, hd3, hr3⟩
    have HB := hide (hd3.low)
    have HST := hide (HST.out.rolls hr3 HPB.out)
    have hnl := stD_length s X
    have hnD := HST.out.1
    have HSP := hide hsp
    have HG := hide (heap_alloc_new w3 (.cells #[.int .i64 s, .int .i64 (stF s X : Nat), .slice p n c] 30))
    have HST := hide (HST.out.keep (below1 (.cells #[.int .i64 s, .int .i64 (stF s X : Nat), .slice p n c] 30)))
    have HSP := hide (HSP.out.keep (below1 (.cells #[.int .i64 s, .int .i64 (stF s X : Nat), .slice p n c] 30)))
    have HB := hide (HB.out.alloc HB.out.size (.cells #[.int .i64 s, .int .i64 (stF s X : Nat), .slice p n c] 30))
    have hs3 : 1 ≤ s ∧ s ≤ 256 := by omega
    have qa := fun (most : Nat) (hm : most ≤ 256) (V : World) (hV : StrRow V p n (stD s X)) (hV2 : SpRow V pl L.length L) => snd_answer s X p n c hs3 (by omega) HXS.out L pl L.length cl (by omega) most hm V hV hV2
    have qno := fun (k : Int) (hk : k < (stF s X : Nat) ∨ (X.length : Int) ≤ k) (V : World) (hV : StrRow V p n (stD s X)) => snd_getX_no s X k p n c hs3 (by omega) HXS.out hk V hV
    have qyes : ∀ k : Nat, X.length ≤ k + s → k < X.length → ∃ y : ByteArray, ∀ V, StrRow V p n (stD s X) → Calls Try.prog 15 #[.agg #[.int .i64 s, .int .i64 (stF s X : Nat), .slice p n c], .int .i64 k] V fun e w' => e = .returned (.tuple #[.string y, .bool true]) ∧ Below V.heap.size V w' := fun k hk hk2 => ⟨X[k], fun V hV => snd_getX_yes s X k p n c hs3 (by omega) HXS.out ⟨hc1, hc2⟩ hk hk2 V hV⟩
    have hfn : stF s X + n = X.length := by unfold stF; omega
    have hfs : ∀ j, stF s X + j < X.length → X.length ≤ stF s X + j + s := fun j h => by unfold stF; omega
    have hnx := snd_next s (stF s X) p n c (by unfold stF; omega) (by omega)
    have qhas := fun (q : Int) (V : World) (hV : SpRow V pl L.length L) => span_has L q pl L.length cl (by omega) (fun x hx => by have := hLs x hx; omega) V hV
    clear hd3 hr3 hsp hnl hnD HPB HD2
    generalize stF s X = F at *
    generalize stD s X = D at *
    obtain ⟨xl, hxl⟩ : ∃ xl, X.length = xl := ⟨_, rfl⟩
    have HFN := hide hfn
    have QNX : Hid (∀ V, Calls Try.prog 14 #[.agg #[.int .i64 s, .int .i64 F, .slice p n c]] V fun e w' => e = .returned (.int .i64 (xl : Nat)) ∧ Below V.heap.size V w') := fun V => by
      rw [← hxl, ← hfn, show ((F + n : Nat) : Int) = (F : Int) + (n : Int) by omega]
      exact hnx V
    rw [hxl] at qno qyes hfs hX
    have HXL := hide hxl
    have hR256 : (hitsF L F n).length ≤ 256 := by have := hits_length L F n; omega
    have qa1 := qa 256 (by omega)
    have qa2 := qa mm (by omega)
    rw [List.take_of_length_le hR256] at qa1
    have hNext := hide (hits_next L F n)
    have hFirst := hide (hits_first L F n)
    have hMono := hide (hits_mono L F n)
    have hlen := hits_length L F n
    have hkk := hide (fun j => hits_length L F j)
    obtain ⟨R, hR⟩ : ∃ R, hitsF L F n = R := ⟨_, rfl⟩
    rw [hR] at qa1 qa2 hNext hFirst hMono hlen hR256
    have HRR := hide hR
    obtain ⟨la, hla⟩ : ∃ la, R.length = la := ⟨_, rfl⟩
    have hls : (mm ≤ la ∧ (R.take mm).length = mm) ∨ (la < mm ∧ (R.take mm).length = la) := by
      rw [List.length_take]; omega
    rw [hla] at qa1 hMono hlen hR256
    have HLA := hide hla
    have hxl8 : xl ≤ 8 := hX
    have hnl8 : n ≤ 8 := by omega
    have QA1 : Hid (∀ V, StrRow V p n D → SpRow V pl L.length L → Calls Try.prog 23 #[.agg #[.int .i64 s, .int .i64 F, .slice p n c], .slice pl L.length cl, .int .i64 256] V fun e w' => (∃ a cc, e = .returned (.tuple #[.slice a la cc, .int .i64 0]) ∧ NatRow w' a la R) ∧ Below V.heap.size V w') := qa1
    have QNO := hide qno
    have QYES := hide qyes
    have QHAS := hide qhas
    have HFS := hide hfs
    have hgB : w3.heap.size < (w3.alloc (.cells #[.int .i64 s, .int .i64 F, .slice p n c] 30)).heap.size := by simp
    clear qa qa1 qno qyes qhas hnx hfn hfs hxl hR hla hX
    rcases hls with ⟨hlc, hle⟩ | ⟨hlc, hle⟩ <;> (rw [hle] at qa2) <;> (have QA2 := hide qa2) <;> (have HLE := hide hle) <;> (clear qa2 hle)
    all_goals
      go_wp2_with (first
        | (go_at_call 23; (with_reducible refine (QA1.out _ ?_ ?_).mono ?_); (focus exact HST.out); (focus exact HSP.out); rintro e w4 ⟨⟨a1, cc1, rfl, hn1⟩, hb⟩; (have N1 := hide hn1); (have HST := hide (HST.out.keep hb)); (have HSP := hide (HSP.out.keep hb)); (have HG := hide ((hb.block _ (Array.getElem?_eq_some_iff.1 HG.out).1).trans HG.out)); (have HB := hide (HB.out.trans (hb.mono HB.out.size))); (obtain ⟨c0, c1, c2, f0, f1, f2⟩ := tri_cells HG.out); clear hb hn1)
        | (go_at_call 23; (with_reducible refine (QA2.out _ ?_ ?_).mono ?_); (focus exact HST.out); (focus exact HSP.out); rintro e w5 ⟨⟨a2, cc2, rfl, hn2⟩, hb⟩; (have N2 := hide hn2); (have N1 := hide (N1.out.keep hb)); (have HST := hide (HST.out.keep hb)); (have HSP := hide (HSP.out.keep hb)); (have HG := hide ((hb.block _ (Array.getElem?_eq_some_iff.1 HG.out).1).trans HG.out)); (have HB := hide (HB.out.trans (hb.mono HB.out.size))); clear c0 c1 c2 f0 f1 f2; (obtain ⟨c0, c1, c2, f0, f1, f2⟩ := tri_cells HG.out); clear hb hn2))
      go_loopw [62] (fun iv wr => ∃ k : Nat, k ≤ (R.take mm).length ∧ iv = .int .i64 k ∧ Hid (Below w5.heap.size w5 wr)) (fun iv _ => 9 - (intOf iv).toNat)
      case atStart => exact ⟨0, Nat.zero_le _, rfl, Below.refl _ _⟩
      case round =>
        obtain ⟨k, hk, rfl, HB6⟩ := hrel
        have hle2 := HLE.out
        by_cases hlt : k < (R.take mm).length
        · obtain ⟨-, hz | ⟨b1, o1, rfl, hq1⟩⟩ := N1.out
          · omega
          obtain ⟨-, hz | ⟨b2, o2, rfl, hq2⟩⟩ := N2.out
          · omega
          have hkR : k < R.length := by rw [List.length_take] at hlt; omega
          have y1 : wr.cell? ⟨b1, o1 + k, none⟩ = some (.int .i64 (R[k] : Nat)) := by rw [HB6.out.cell (block_lt_of_cell (hq1 k hkR))]; exact hq1 k hkR
          have y2 : wr.cell? ⟨b2, o2 + k, none⟩ = some (.int .i64 (R[k] : Nat)) := by rw [HB6.out.cell (block_lt_of_cell (hq2 k hlt)), hq2 k hlt, List.getElem_take]
          have hkb1 : (k : Int) < (mm : Int) := by omega
          have hkb2 : (k : Int) < (la : Int) := by omega
          clear hq1 hq2 hle2 hk hlt
          generalize R[k] = jj at *
          go_wp2
          go_region
          go_wp2
          go_roundw
          case rel => exact ⟨k + 1, by have := HLE.out; omega, by go_num, hide HB6.out.drew⟩
          case measure => simp [intOf]; omega
        · have HST := hide (HST.out.keep HB6.out)
          have HSP := hide (HSP.out.keep HB6.out)
          have HG := hide ((HB6.out.block _ (Array.getElem?_eq_some_iff.1 HG.out).1).trans HG.out)
          have HB := hide (HB.out.trans (HB6.out.mono HB.out.size))
          have N1 := hide (N1.out.keep HB6.out)
          first
            | (have x1 : decide ((k : Int) < (mm : Int)) = false := (by (simp; omega)); have x2 : decide (k < mm) = false := (by (simp; omega)); have x3 : k = mm := (by omega); have X3 := hide x3; clear x3)
            | (have x1 : decide ((k : Int) < (la : Int)) = false := (by (simp; omega)); have x2 : decide (k < la) = false := (by (simp; omega)); have x3 : k = la := (by omega); have X3 := hide x3; clear x3)
          clear hk hlt hle2 HB6
          go_wp2_with fail
          generalize wr = w6 at *
          go_loopw [14, 15] (fun tk tq wr => ∃ qn : Nat, qn ≤ xl ∧ tk = .int .i64 (hitsF L F (qn - F)).length ∧ tq = .int .i64 qn ∧ Hid (Below w6.heap.size w6 wr)) (fun _ tq _ => 9 - (intOf tq).toNat)
          case atStart => exact ⟨0, Nat.zero_le _, by rw [Nat.zero_sub]; rfl, rfl, Below.refl _ _⟩
          case round =>
            obtain ⟨qn, hqn, rfl, rfl, HB7⟩ := hrel
            have HG7 := hide ((HB7.out.block _ (Array.getElem?_eq_some_iff.1 HG.out).1).trans HG.out)
            obtain ⟨c0, c1, c2, f0, f1, f2⟩ := tri_cells HG7.out
            by_cases hlt : qn < xl
            · have d1 : decide ((qn : Int) < (xl : Int)) = true := by simp; omega
              have d1' : decide (qn < xl) = true := by simp; omega
              by_cases hF : qn < F
              · have QN := hide (fun (V : World) (hV : StrRow V p n D) => QNO.out (qn : Int) (.inl (by omega)) V hV)
                obtain ⟨kk, hkk⟩ : ∃ kk, (hitsF L F (qn - F)).length = kk := ⟨_, rfl⟩
                have HKK := hide hkk
                have hk0 : kk = 0 := by rw [← hkk, show qn - F = 0 by omega]; rfl
                rw [hkk]
                clear hkk
                by_cases hl0 : kk < la
                · skip
                  obtain ⟨-, hz | ⟨b1, o1, rfl, hq1⟩⟩ := N1.out
                  · omega
                  have hkR : kk < R.length := by have := HLA.out; omega
                  obtain ⟨v, hv⟩ : ∃ v, R[kk] = v := ⟨_, rfl⟩
                  have HYC := hide (fun (V : World) (hV : Below w6.heap.size w6 V) => (show V.cell? ⟨b1, o1 + kk, none⟩ = some (.int .i64 (v : Nat)) from by rw [hV.cell (block_lt_of_cell (hq1 kk hkR)), hq1 kk hkR, hv]))
                  have hvq := List.getElem?_eq_getElem hkR
                  rw [hv] at hvq
                  have HVQ := hide hvq
                  have hk1 : (kk : Int) < (la : Int) := by omega
                  have hk2 : decide ((kk : Int) < (la : Int)) = true := by simp; omega
                  have hk3 : decide (kk < la) = true := by simp; omega
                  clear hq1 hv hvq hkR
                  have hvF := hFirst.out v (List.mem_of_getElem? HVQ.out)
                  have t1 : ((v : Int) == (qn : Int)) = false := by simp; omega
                  have t2 : decide (v = qn) = false := by simp; omega
                  have t3 : (v == qn) = false := by simp; omega
                  clear hk0 hvF
                  go_wp2_with (first
                    | (go_at_call 14; (with_reducible refine (QNX.out _).mono ?_); rintro e w7 ⟨rfl, hb⟩; (have HB7 := hide (HB7.out.trans (hb.mono HB7.out.size))); (have HG7 := hide ((hb.block _ (Array.getElem?_eq_some_iff.1 HG7.out).1).trans HG7.out)); clear c0 c1 c2 f0 f1 f2; (obtain ⟨c0, c1, c2, f0, f1, f2⟩ := tri_cells HG7.out); clear hb)
                    | (go_at_call 15; (with_reducible refine (QN.out _ ?_).mono ?_); (focus exact HST.out.keep HB7.out); rintro e w8 ⟨rfl, hb⟩; (have HB7 := hide (HB7.out.trans (hb.mono HB7.out.size))); (have HG7 := hide ((hb.block _ (Array.getElem?_eq_some_iff.1 HG7.out).1).trans HG7.out)); clear c0 c1 c2 f0 f1 f2; (obtain ⟨c0, c1, c2, f0, f1, f2⟩ := tri_cells HG7.out); (have y1 := HYC.out w8 HB7.out); clear hb))
                  go_roundw
                  case rel => exact ⟨qn + 1, by omega, by rw [show qn + 1 - F = qn - F by omega, HKK.out], by go_num, HB7⟩
                  case measure => simp [intOf]; omega
                · skip
                  have hk2 : decide ((kk : Int) < (la : Int)) = false := by simp; omega
                  have hk3 : decide (kk < la) = false := by simp; omega
                  clear hk0
                  go_wp2_with (first
                    | (go_at_call 14; (with_reducible refine (QNX.out _).mono ?_); rintro e w7 ⟨rfl, hb⟩; (have HB7 := hide (HB7.out.trans (hb.mono HB7.out.size))); (have HG7 := hide ((hb.block _ (Array.getElem?_eq_some_iff.1 HG7.out).1).trans HG7.out)); clear c0 c1 c2 f0 f1 f2; (obtain ⟨c0, c1, c2, f0, f1, f2⟩ := tri_cells HG7.out); clear hb)
                    | (go_at_call 15; (with_reducible refine (QN.out _ ?_).mono ?_); (focus exact HST.out.keep HB7.out); rintro e w8 ⟨rfl, hb⟩; (have HB7 := hide (HB7.out.trans (hb.mono HB7.out.size))); (have HG7 := hide ((hb.block _ (Array.getElem?_eq_some_iff.1 HG7.out).1).trans HG7.out)); clear c0 c1 c2 f0 f1 f2; (obtain ⟨c0, c1, c2, f0, f1, f2⟩ := tri_cells HG7.out); clear hb))
                  go_roundw
                  case rel => exact ⟨qn + 1, by omega, by rw [show qn + 1 - F = qn - F by omega, HKK.out], by go_num, HB7⟩
                  case measure => simp [intOf]; omega
              · obtain ⟨y, hy⟩ := QYES.out qn (by have := HFS.out (qn - F) (by omega); omega) hlt
                have QN := hide hy
                obtain ⟨kk, hkk⟩ : ∃ kk, (hitsF L F (qn - F)).length = kk := ⟨_, rfl⟩
                have hnx := hNext.out (qn - F) (by have := HFN.out; have := HXL.out; omega)
                have hmo := hMono.out (qn - F) (by have := HFN.out; have := HXL.out; omega)
                rw [show F + (qn - F) = qn by omega, hkk] at hnx
                rw [hkk] at hmo
                rw [hkk]
                have HKK := hide hkk
                have qh := fun (V : World) (hV : SpRow V pl L.length L) => QHAS.out (qn : Int) V hV
                clear hkk hy
                cases hh : hasB L (qn : Int)
                · rw [hh] at qh
                  have QH := hide qh
                  have hn2 := hnx.2 hh
                  have HLN := hide hn2.2
                  have HNE := hide hn2.1
                  clear qh hh hnx hn2
                  by_cases hl0 : kk < la
                  · skip
                    obtain ⟨-, hz | ⟨b1, o1, rfl, hq1⟩⟩ := N1.out
                    · omega
                    have hkR : kk < R.length := by have := HLA.out; omega
                    obtain ⟨v, hv⟩ : ∃ v, R[kk] = v := ⟨_, rfl⟩
                    have HYC := hide (fun (V : World) (hV : Below w6.heap.size w6 V) => (show V.cell? ⟨b1, o1 + kk, none⟩ = some (.int .i64 (v : Nat)) from by rw [hV.cell (block_lt_of_cell (hq1 kk hkR)), hq1 kk hkR, hv]))
                    have hvq := List.getElem?_eq_getElem hkR
                    rw [hv] at hvq
                    have HVQ := hide hvq
                    have hk1 : (kk : Int) < (la : Int) := by omega
                    have hk2 : decide ((kk : Int) < (la : Int)) = true := by simp; omega
                    have hk3 : decide (kk < la) = true := by simp; omega
                    clear hq1 hv hvq hkR
                    have hvne := HNE.out v HVQ.out
                    have t1 : ((v : Int) == (qn : Int)) = false := by simp; omega
                    have t2 : decide (v = qn) = false := by simp; omega
                    have t3 : (v == qn) = false := by simp; omega
                    clear hvne
                    go_wp2_with (first
                      | (go_at_call 14; (with_reducible refine (QNX.out _).mono ?_); rintro e w7 ⟨rfl, hb⟩; (have HB7 := hide (HB7.out.trans (hb.mono HB7.out.size))); (have HG7 := hide ((hb.block _ (Array.getElem?_eq_some_iff.1 HG7.out).1).trans HG7.out)); clear c0 c1 c2 f0 f1 f2; (obtain ⟨c0, c1, c2, f0, f1, f2⟩ := tri_cells HG7.out); clear hb)
                      | (go_at_call 15; (with_reducible refine (QN.out _ ?_).mono ?_); (focus exact HST.out.keep HB7.out); rintro e w8 ⟨rfl, hb⟩; (have HB7 := hide (HB7.out.trans (hb.mono HB7.out.size))); (have HG7 := hide ((hb.block _ (Array.getElem?_eq_some_iff.1 HG7.out).1).trans HG7.out)); clear c0 c1 c2 f0 f1 f2; (obtain ⟨c0, c1, c2, f0, f1, f2⟩ := tri_cells HG7.out); (have y1 := HYC.out w8 HB7.out); clear hb)
                      | (go_at_call 26; (with_reducible refine (QH.out _ ?_).mono ?_); (focus exact HSP.out.keep HB7.out); rintro e w9 ⟨rfl, rfl⟩))
                    go_roundw
                    case rel => exact ⟨qn + 1, by omega, by rw [show qn + 1 - F = qn - F + 1 by omega, HLN.out], by go_num, HB7⟩
                    case measure => simp [intOf]; omega
                  · skip
                    have hk2 : decide ((kk : Int) < (la : Int)) = false := by simp; omega
                    have hk3 : decide (kk < la) = false := by simp; omega
                    go_wp2_with (first
                      | (go_at_call 14; (with_reducible refine (QNX.out _).mono ?_); rintro e w7 ⟨rfl, hb⟩; (have HB7 := hide (HB7.out.trans (hb.mono HB7.out.size))); (have HG7 := hide ((hb.block _ (Array.getElem?_eq_some_iff.1 HG7.out).1).trans HG7.out)); clear c0 c1 c2 f0 f1 f2; (obtain ⟨c0, c1, c2, f0, f1, f2⟩ := tri_cells HG7.out); clear hb)
                      | (go_at_call 15; (with_reducible refine (QN.out _ ?_).mono ?_); (focus exact HST.out.keep HB7.out); rintro e w8 ⟨rfl, hb⟩; (have HB7 := hide (HB7.out.trans (hb.mono HB7.out.size))); (have HG7 := hide ((hb.block _ (Array.getElem?_eq_some_iff.1 HG7.out).1).trans HG7.out)); clear c0 c1 c2 f0 f1 f2; (obtain ⟨c0, c1, c2, f0, f1, f2⟩ := tri_cells HG7.out); clear hb)
                      | (go_at_call 26; (with_reducible refine (QH.out _ ?_).mono ?_); (focus exact HSP.out.keep HB7.out); rintro e w9 ⟨rfl, rfl⟩))
                    go_roundw
                    case rel => exact ⟨qn + 1, by omega, by rw [show qn + 1 - F = qn - F + 1 by omega, HLN.out], by go_num, HB7⟩
                    case measure => simp [intOf]; omega
                · rw [hh] at qh
                  have QH := hide qh
                  have hn2 := hnx.1 hh
                  have HLN := hide hn2.2
                  have hl0 : kk < la := by have := (List.getElem?_eq_some_iff.1 hn2.1).1; have := HLA.out; omega
                  have HNE := hide hn2.1
                  clear qh hh hnx hn2
                  obtain ⟨-, hz | ⟨b1, o1, rfl, hq1⟩⟩ := N1.out
                  · omega
                  have hkR : kk < R.length := by have := HLA.out; omega
                  obtain ⟨v, hv⟩ : ∃ v, R[kk] = v := ⟨_, rfl⟩
                  have HYC := hide (fun (V : World) (hV : Below w6.heap.size w6 V) => (show V.cell? ⟨b1, o1 + kk, none⟩ = some (.int .i64 (v : Nat)) from by rw [hV.cell (block_lt_of_cell (hq1 kk hkR)), hq1 kk hkR, hv]))
                  have hvq := List.getElem?_eq_getElem hkR
                  rw [hv] at hvq
                  have HVQ := hide hvq
                  have hk1 : (kk : Int) < (la : Int) := by omega
                  have hk2 : decide ((kk : Int) < (la : Int)) = true := by simp; omega
                  have hk3 : decide (kk < la) = true := by simp; omega
                  clear hq1 hv hvq hkR
                  have hvq2 : v = qn := by have h1 := HVQ.out; rw [HNE.out] at h1; injection h1 with h1; exact h1.symm
                  subst hvq2
                  go_wp2_with (first
                    | (go_at_call 14; (with_reducible refine (QNX.out _).mono ?_); rintro e w7 ⟨rfl, hb⟩; (have HB7 := hide (HB7.out.trans (hb.mono HB7.out.size))); (have HG7 := hide ((hb.block _ (Array.getElem?_eq_some_iff.1 HG7.out).1).trans HG7.out)); clear c0 c1 c2 f0 f1 f2; (obtain ⟨c0, c1, c2, f0, f1, f2⟩ := tri_cells HG7.out); clear hb)
                    | (go_at_call 15; (with_reducible refine (QN.out _ ?_).mono ?_); (focus exact HST.out.keep HB7.out); rintro e w8 ⟨rfl, hb⟩; (have HB7 := hide (HB7.out.trans (hb.mono HB7.out.size))); (have HG7 := hide ((hb.block _ (Array.getElem?_eq_some_iff.1 HG7.out).1).trans HG7.out)); clear c0 c1 c2 f0 f1 f2; (obtain ⟨c0, c1, c2, f0, f1, f2⟩ := tri_cells HG7.out); (have y1 := HYC.out w8 HB7.out); clear hb)
                    | (go_at_call 26; (with_reducible refine (QH.out _ ?_).mono ?_); (focus exact HSP.out.keep HB7.out); rintro e w9 ⟨rfl, rfl⟩))
                  go_roundw
                  case rel => exact ⟨v + 1, by omega, by rw [show v + 1 - F = v - F + 1 by omega, HLN.out]; go_num, by go_num, HB7⟩
                  case measure => simp [intOf]; omega
            · have hx : qn = xl := by omega
              subst hx
              have hkn : (hitsF L F (qn - F)).length = la := by rw [show qn - F = n by have := HFN.out; have := HXL.out; omega, HRR.out]; exact HLA.out
              rw [hkn]
              clear hkn
              go_wp2_with (first
                | (go_at_call 14; (with_reducible refine (QNX.out _).mono ?_); rintro e w7 ⟨rfl, hb⟩; (have HB7 := hide (HB7.out.trans (hb.mono HB7.out.size))); (have HG7 := hide ((hb.block _ (Array.getElem?_eq_some_iff.1 HG7.out).1).trans HG7.out)); clear c0 c1 c2 f0 f1 f2; (obtain ⟨c0, c1, c2, f0, f1, f2⟩ := tri_cells HG7.out); clear hb)
                | (go_at_call 7; (with_reducible refine (QS.out _).mono ?_); rintro e w10 ⟨rfl, hb⟩; (have HBF := hide ((HB.out.trans (HB7.out.mono HB.out.size)).trans (hb.mono (Nat.le_trans HB.out.size HB7.out.size)))); clear hb))
              go_ret
              exact ⟨rfl, HBF.out⟩
  · rw [decide_eq_false hl] at q1
    have Q1 := hide q1
    clear q1 hl hr
    go_enter Try.func5, Try.ntmps5
    go_wp2_with (first
      | (go_at_call 6; (with_reducible refine (Q1.out _).mono ?_); rintro e w1 ⟨rfl, rfl⟩)
      | (go_at_call 7; (with_reducible refine (QS.out _).mono ?_); rintro e w1 ⟨rfl, hb⟩))
    go_ret
    exact ⟨rfl, hb⟩
end Go.Proofs.Ytpniokkllkjhhaa
