/- The walk of the statement SenderExact. -/
import Derived.Test.YtpniokkllkjhhaaSndMadeB
import Derived.Test.YtpniokkllkjhhaaSndOdd
import Derived.Test.YtpniokkllkjhhaaIntBlk
import Derived.Deep.LoopGhost
import Derived.Deep.CutRange
import Derived.Deep.CutBlock
import Derived.Deep.RegionLaw
import Derived.Deep.AppendLies
namespace Go.Proofs.Ytpniokkllkjhhaa
open Go.RowKit
set_option linter.unusedVariables false
set_option linter.unusedSimpArgs false
set_option maxHeartbeats 16000000 in
set_option maxRecDepth 100000 in
theorem sender_exact (a : Option Addr) (len cap : Nat) (R : Sn) (x : ByteArray) (pl : Option Addr) (nl cl : Nat) (L : List (Int × Int)) (seq size most : Int) (W : World) (hr : IntRow W a len) (hraw1 : StrRow W R.p R.n R.D) (hraw2 : R.n ≤ R.c ∧ R.c ≤ 9223372036854775807) (hraw3 : R.p = none → R.n = 0 ∧ R.c = 0) (hraw4 : (-9223372036854775808 ≤ R.s ∧ R.s ≤ 9223372036854775807) ∧ (-9223372036854775808 ≤ R.f ∧ R.f ≤ 9223372036854775807)) (hx : x.size ≤ 140737488351232) (hl : SpRow W pl nl L) (h1 : -9223372036854775808 ≤ seq ∧ seq ≤ 9223372036854775807) (h2 : -9223372036854775808 ≤ size ∧ size ≤ 9223372036854775807) (h3 : -9223372036854775808 ≤ most ∧ most ≤ 9223372036854775807) :
    Calls Try.prog 4 #[.slice a len cap, .agg #[.int .i64 R.s, .int .i64 R.f, .slice R.p R.n R.c], .string x, .slice pl nl cl, .int .i64 seq, .int .i64 size, .int .i64 most] W fun e w' => e = .returned (.bool true) ∧ Below W.heap.size W w' := by
  have QS := hide (fun w => snd_sane w)
  have q1 := fun w => made_light a len cap hr.1 w
  by_cases hgood : len ≤ 500 ∧ R.n ≤ 40 ∧ x.size ≤ 300 ∧ nl ≤ 20
  · obtain ⟨g1, g2, g3, g4⟩ := hgood
    rw [decide_eq_true g1] at q1
    have Q1 := hide q1
    have HR := hide hr
    have HRAW := hide (show StrRow W R.p R.n R.D ∧ (R.n ≤ R.c ∧ R.c ≤ 9223372036854775807) ∧ (R.p = none → R.n = 0 ∧ R.c = 0) ∧ R.D.length ≤ 100 from ⟨hraw1, hraw2, hraw3, by have := hraw1.1; omega⟩)
    have HRAB := hide hraw4
    have HL := hide (show SpRow W pl nl L ∧ L.length ≤ 20 from ⟨hl, by have := hl.1; omega⟩)
    have d2 : decide ((40 : Int) < (R.n : Int)) = false := by simp; omega
    have d2' : decide (40 < R.n) = false := by simp; omega
    have d3 : decide ((300 : Int) < (x.size : Int)) = false := by simp; omega
    have d3' : decide (300 < x.size) = false := by simp; omega
    have d4 : decide ((20 : Int) < (nl : Int)) = false := by simp; omega
    have d4' : decide (20 < nl) = false := by simp; omega
    have HX := hide hx
    clear hr hraw1 hraw2 hraw3 hraw4 hl q1 g1 g2 g3 g4 hx
    go_enter Try.func4, Try.ntmps4
    go_wp2_with fail
    have G8 := hide (heap_alloc_new W (.cells #[.int .i64 R.s, .int .i64 R.f, .slice R.p R.n R.c] 30))
    have HB1 := hide (below1 (w := W) (.cells #[.int .i64 R.s, .int .i64 R.f, .slice R.p R.n R.c] 30))
    have hg8 : W.heap.size < (W.alloc (.cells #[.int .i64 R.s, .int .i64 R.f, .slice R.p R.n R.c] 30)).heap.size := by simp
    generalize W.alloc (.cells #[.int .i64 R.s, .int .i64 R.f, .slice R.p R.n R.c] 30) = W1 at *
    obtain ⟨c0, c1, c2, -, -, -⟩ := tri_cells G8.out
    have Q2 := hide (made_roll a len cap W1 (HR.out.keep HB1.out))
    have hgd : W.heap.size < W1.heap.size := hg8
    obtain ⟨gd, hgde⟩ : ∃ gd, W1.heap.size = gd := ⟨_, rfl⟩
    go_wp2_with (first
      | (go_at_call 6; (with_reducible refine (Q1.out _).mono ?_); rintro e w1 ⟨rfl, rfl⟩)
      | (go_at_call 8; (with_reducible refine (Q2.out).mono ?_); rintro e w1 ⟨rfl, hd1⟩; (have HD := hide hd1); clear hd1))
    go_at_call 16
    rw [hgde] at HD hgd
    with_reducible refine (made_sender2 _ HD.out).mono ?_
    rintro e w2 ⟨⟨s, X, p, n, c, rfl, hs1, hs2, hX, hXs, hst, hc1, hc2, hpn, hnp, hpb⟩, hd2, hr2⟩
    obtain ⟨S, hS⟩ : ∃ S : Sn, S = ⟨s, stF s X, p, n, c, stD s X⟩ := ⟨_, rfl⟩
    have hgl2 : gd < w2.heap.size := hd2.lt
    have hSok : S.ok gd w2 := by
      subst hS
      have hl := stD_length s X
      refine ⟨hst, ⟨hc1, hc2⟩, hpn, by show (stD s X).length ≤ 300; omega, fun b off hp => .inr (by have := hpb b off hp; have := HD.out.lt; omega), by show -9223372036854775808 ≤ (s : Int) ∧ (s : Int) ≤ _; omega, by show -9223372036854775808 ≤ ((stF s X : Nat) : Int) ∧ ((stF s X : Nat) : Int) ≤ _; unfold stF; omega⟩
    have hS8 : S.D.length ≤ 100 := by
      subst hS
      have hl := stD_length s X
      show (stD s X).length ≤ 100
      omega
    have HS8 := hide hS8
    have hSn : S.n = 0 → S.p = none := by subst hS; exact hnp
    have hSb : ∀ b off, S.p = some ⟨b, off, none⟩ → b < w2.heap.size := by
      subst hS
      intro b off hp
      obtain ⟨hnl, h0 | ⟨b', off', hp', hc'⟩⟩ := hst
      · have := hnp h0; rw [this] at hp; cases hp
      · by_cases hz : n = 0
        · have := hnp hz; rw [this] at hp; cases hp
        · have e1 : p = some ⟨b, off, none⟩ := hp
          rw [e1] at hp'
          injection hp' with hp'
          injection hp' with e2 e3
          subst e2
          subst e3
          exact block_lt_of_cell (hc' 0 (by omega))
    have hSs : (s : Int) = S.s := by subst hS; rfl
    have hSf : ((stF s X : Nat) : Int) = S.f := by subst hS; rfl
    have hSp : p = S.p := by subst hS; rfl
    have hSnn : n = S.n := by subst hS; rfl
    have hSc : c = S.c := by subst hS; rfl
    rw [hSs, hSf, hSp, hSnn, hSc]
    have HSok := hide hSok
    have HSn := hide hSn
    have HSb := hide hSb
    have HD := hide hd2
    clear hSok hSn hSb hS8 hSs hSf hSp hSnn hSc hS hs1 hs2 hX hXs hst hc1 hc2 hpn hnp hpb hd2 hr2 Q1 Q2 c0 c1 c2
    go_upto_block 0 with (first
      | (go_at_call 11; (with_reducible refine (made_next W1 a len cap gd 4 ?_ _ ((HD.out.alloc _).alloc _)).mono ?_); (focus omega); rintro e w4 ⟨⟨y, rfl, y0, y1⟩, hd1, hr1⟩;
         (have G16 := hide ((hr1.block w2.heap.size (by simp; omega) (by omega)).trans (pair_alloc (heap_alloc_new w2 _) _)));
         (have G17 := hide ((hr1.block (w2.heap.size + 1) (by simp) (by omega)).trans (new_at (w := w2.alloc _) _ (by simp))));
         (have HSok := hide (((HSok.out.keep (below1 _)).keep (below1 _)).rolls hr1));
         (have hg17 : w2.heap.size + 1 < w4.heap.size := (by have := hr1.size; simp at this; omega));
         (have HD := hide hd1); clear hd1 hr1))
    have HBAS := hide (show Bas W1 a len cap gd S w2.heap.size (w2.heap.size + 1) w4 from ⟨HD.out, HSok.out, G16.out, G17.out, HSb.out, by omega, hgl2, by omega⟩)
    obtain ⟨c0, c1, c2, f0, f1, f2⟩ := tri_cells G17.out
    have hy : y = 0 ∨ y = 1 ∨ y = 2 ∨ y = 3 := by omega
    have hRok : R.ok gd W1 := by
      refine ⟨HRAW.out.1.keep HB1.out, HRAW.out.2.1, HRAW.out.2.2.1, by have := HRAW.out.2.2.2; omega, fun b off hp => ?_, HRAB.out⟩
      obtain ⟨hl, h0 | ⟨b', off', hp', hc⟩⟩ := HRAW.out.1
      · exact .inl h0
      · by_cases hn : R.n = 0
        · exact .inl hn
        · rw [hp] at hp'
          injection hp' with hp'
          injection hp' with e1 e2
          subst e1
          have := block_lt_of_cell (hc 0 (by omega))
          have : b < W.heap.size := this
          exact .inr (by omega)
    have HRok := hide hRok
    have HLW := hide (show SpRow W1 pl nl L from HL.out.1.keep HB1.out)
    have HL20 := hide HL.out.2
    clear hRok
    clear y0 y1 hgde
    go_cut [] from 72 (fun wx => Odd W1 a len cap gd S w2.heap.size (w2.heap.size + 1) wx)
    case first => as_aux_lemma =>
      rcases hy with rfl | rfl | rfl | rfl
      · go_wp2_with (first
          | (go_at_call 9; (with_reducible refine (made_pick (W := W1) (a := a) (len := len) (cap := cap) (fun x => decide (0 ≤ x ∧ x ≤ 257)) _ _ ?_ ?_ ?_ _ ?_ ?_).mono ?_); (focus rfl); (focus decide); (focus rfl); (focus exact HD.out); (focus rfl); rintro e w5 ⟨⟨v, rfl, hv⟩, hd1, hr1⟩; (have hv1 : 0 ≤ v ∧ v ≤ 257 := by (simp at hv; omega)); (have HBAS := hide (HBAS.out.rolls hd1 hr1)); clear c0 c1 c2 f0 f1 f2; (obtain ⟨c0, c1, c2, f0, f1, f2⟩ := tri_cells HBAS.out.b17); clear hd1 hr1))
        go_meet
        case rel => exact HBAS.out.size v (by omega)
      · go_wp2_with (first
          | (go_at_call 9; (with_reducible refine (made_pick (W := W1) (a := a) (len := len) (cap := cap) (fun x => decide (-1 ≤ x ∧ x ≤ 1073741825)) _ _ ?_ ?_ ?_ _ ?_ ?_).mono ?_); (focus rfl); (focus decide); (focus rfl); (focus exact HD.out); (focus rfl); rintro e w5 ⟨⟨v, rfl, hv⟩, hd1, hr1⟩; (have hv1 : -1 ≤ v ∧ v ≤ 1073741825 := by (simp at hv; omega)); (have HBAS := hide (HBAS.out.rolls hd1 hr1)); clear c0 c1 c2 f0 f1 f2; (obtain ⟨c0, c1, c2, f0, f1, f2⟩ := tri_cells HBAS.out.b17); clear hd1 hr1))
        go_meet
        case rel => exact HBAS.out.first v (by omega)
      · by_cases hn : S.n = 0
        · obtain ⟨hp0, hc0⟩ : S.p = none ∧ S.c = 0 := ⟨HSn.out hn, (HSok.out.2.2.1 (HSn.out hn)).2⟩
          rw [hn, hp0, hc0] at c2
          clear hn hp0 hc0
          go_upto_region 12 with fail
          go_region
          all_goals (go_wp2_with fail; go_meet)
          all_goals exact (HBAS.out.data2 1073741825 (by omega) none 0 0 [] ⟨rfl, .inl rfl⟩ (by omega) (fun _ => ⟨rfl, rfl⟩) (by simp) (fun b off hp => by cases hp)).drew
        · obtain ⟨hl, h0 | ⟨b, o, hp, hcell⟩⟩ := HSok.out.1
          · omega
          obtain ⟨i0, hi0, hz0, hz1, hz2⟩ := info_parts info_str
          have hn40 : S.D.length ≤ 100 := HS8.out
          have HH := hide (HSok.out.1.holds ⟨b, o, none⟩ hp)
          rw [hp] at c2
          have hl2 : (strVals S.D).length = S.n * 1 := by rw [strVals, List.length_map]; omega
          have hn0 : 0 < S.n := by omega
          have hn3 : S.n ≤ 100 := by omega
          have hv1 : ∀ u ∈ strVals S.D, u.oneCell' = true := fun u hu => by
            simp [strVals] at hu
            obtain ⟨y, -, rfl⟩ := hu
            rfl
          have HL2 := hide hl2
          have HV1 := hide hv1
          have HP := hide hp
          have HLN := hide hl
          clear hcell hl2 hv1 hp hl hn hn40
          go_upto_region 12 with fail
          go_region_law
           ((refine step_append_lies _ (by rfl) _ _ 28 (by rfl) w4.heap.size 9 i0 _ 1 16 Try.underlying28 hi0 hz0 hz1 hz2 rfl (by decide) (.slice none 0 0) 0 [] (by rfl) (World.ownsRow_nil _ _ _ _) ⟨b, o, none⟩ S.n S.c (strVals S.D) (by rfl) HL2.out HH.out HV1.out hn0 (by unfold maxLen; omega) (by omega) (Nat.le_refl _) _ rfl ?_; intro g cg w5 hown hgrow hat hlt;
              (have hb5 : Below w4.heap.size w4.drew w5 := (Below.refl w4.heap.size w4.drew).grown hgrow (Nat.le_refl _) (fun k hk => absurd hk (by simp [Value.ownBlock])));
              (have HBAS5 := hide ((HBAS.out.below (Below.refl _ _).drew).below hb5)); clear c0 c1 c2 f0 f1 f2; (obtain ⟨c0, c1, c2, f0, f1, f2⟩ := tri_cells HBAS5.out.b17); (rw [HP.out] at c2)))
          all_goals (go_wp2_with fail; go_meet)
          all_goals
            obtain ⟨r1, r2, r3⟩ := own_row hown hn0
            exact HBAS5.out.data2 _ (by rw [IntKind.wrap_i64]; omega) _ _ _ S.D r1 r2 (fun hc => by cases hc) (by have := HS8.out; omega) (fun b2 o2 hbo => .inr (by injection hbo with e1; injection e1 with e1 e2; omega))
      · by_cases hn : S.n = 0
        · obtain ⟨hp0, hc0⟩ : S.p = none ∧ S.c = 0 := ⟨HSn.out hn, (HSok.out.2.2.1 (HSn.out hn)).2⟩
          rw [hn, hp0, hc0] at c2
          clear hn hp0 hc0
          obtain ⟨i0, hi0, hz0, hz1, hz2⟩ := info_parts info_str
          go_wp2_with (first
            | (at_builtin
               refine wpList_append_own_none rfl _ _ 28 rfl w4.heap.size 9 i0 1 Try.underlying28 hi0 (.slice none 0 0) 0 [] rfl (World.ownsRow_nil _ _ _ _) rfl ?_)
            | (at_builtin
               refine wpList_append_lies _ rfl _ _ 28 rfl w4.heap.size 9 i0 _ 1 16 Try.underlying28 hi0 hz0 hz1 hz2 rfl (by decide) (.slice none 0 0) 0 [] rfl (World.ownsRow_nil _ _ _ _) ⟨w4.heap.size, 0, none⟩ 2 2 [.string ⟨#[109, 111, 114, 101]⟩, .string ⟨#[97, 110, 100, 32, 109, 111, 114, 101]⟩] rfl rfl (World.news_of_block (heap_alloc_new w4 _)) (by simp [Value.oneCell']) (by omega) (by unfold maxLen; omega) (by omega) (by simp) _ rfl ?_
               intro g cg w5 hown hgrow hat hlt
               (have hb5 : Below w4.heap.size w4 w5 := (below1 _).grown hgrow (by simp) (fun k hk => absurd hk (by simp [Value.ownBlock])));
               (have HBAS5 := hide (HBAS.out.below hb5)); clear c0 c1 c2 f0 f1 f2; (obtain ⟨c0, c1, c2, f0, f1, f2⟩ := tri_cells HBAS5.out.b17)))
          go_meet
          case rel =>
            obtain ⟨r1, r2, r3⟩ := own_row (D := [⟨#[109, 111, 114, 101]⟩, ⟨#[97, 110, 100, 32, 109, 111, 114, 101]⟩]) hown (by omega)
            exact HBAS5.out.data _ _ _ _ r1 r2 (fun hc => by cases hc) (by simp) (fun b2 o2 hbo => .inr (by injection hbo with e1; injection e1 with e1 e2; omega))
        · obtain ⟨hl, h0 | ⟨b, o, hp, hcell⟩⟩ := HSok.out.1
          · omega
          obtain ⟨i0, hi0, hz0, hz1, hz2⟩ := info_parts info_str
          have hn40 : S.D.length ≤ 100 := HS8.out
          have HH := hide (HSok.out.1.holds ⟨b, o, none⟩ hp)
          rw [hp] at c2
          have hl2 : (strVals S.D).length = S.n * 1 := by rw [strVals, List.length_map]; omega
          have hn0 : 0 < S.n := by omega
          have hn3 : S.n ≤ 100 := by omega
          have hv1 : ∀ u ∈ strVals S.D, u.oneCell' = true := fun u hu => by
            simp [strVals] at hu
            obtain ⟨y, -, rfl⟩ := hu
            rfl
          have HL2 := hide hl2
          have HV1 := hide hv1
          have HP := hide hp
          have HLN := hide hl
          clear hcell hl2 hv1 hp hl hn hn40
          go_wp2_with (first
            | (at_builtin
               refine wpList_append_lies _ rfl _ _ 28 rfl w4.heap.size 9 i0 _ 1 16 Try.underlying28 hi0 hz0 hz1 hz2 rfl (by decide) (.slice none 0 0) 0 [] rfl (World.ownsRow_nil _ _ _ _) ⟨b, o, none⟩ S.n S.c (strVals S.D) rfl HL2.out HH.out HV1.out hn0 (by unfold maxLen; omega) (by omega) (Nat.le_refl _) _ rfl ?_
               intro g cg w5 hown hgrow hat hlt
               (have hb5 : Below w4.heap.size w4 w5 := (Below.refl w4.heap.size w4).grown hgrow (Nat.le_refl _) (fun k hk => absurd hk (by simp [Value.ownBlock])));
               (have HBAS5 := hide (HBAS.out.below hb5)); (have HB5 := hide hb5); (obtain ⟨r1, r2, r3⟩ := own_row hown hn0); (have hgl := hlt); (have HOWN := hide (show w5.ownsRow w4.heap.size 9 1 (.slice (some ⟨g, 0, none⟩) S.n cg) S.n (strVals S.D) from by (simpa only [Nat.zero_add, List.nil_append] using hown))); clear c0 c1 c2 f0 f1 f2 hown hgrow hat hlt r1 r2 hb5)
            | (at_builtin
               refine wpList_append_lies _ rfl _ _ 28 rfl w4.heap.size 9 i0 _ 1 16 Try.underlying28 hi0 hz0 hz1 hz2 rfl (by decide) (.slice (some ⟨g, 0, none⟩) S.n cg) S.n (strVals S.D) rfl (HOWN.out.alloc _) ⟨w5.heap.size, 0, none⟩ 2 2 [.string ⟨#[109, 111, 114, 101]⟩, .string ⟨#[97, 110, 100, 32, 109, 111, 114, 101]⟩] rfl rfl (World.news_of_block (heap_alloc_new w5 _)) (by simp [Value.oneCell']) (by omega) (by unfold maxLen; omega) (by omega) (by have := HB5.out.size; simp; omega) _ rfl ?_
               intro g2 cg2 w6 hown2 hgrow2 hat2 hlt2
               (have hb6 : Below w4.heap.size w4 w6 := (HB5.out.alloc HB5.out.size _).grown hgrow2 (by have := HB5.out.size; simp; omega) (fun k hk => by simp [Value.ownBlock] at hk; omega));
               (have HBAS6 := hide (HBAS.out.below hb6)); (obtain ⟨c0, c1, c2, f0, f1, f2⟩ := tri_cells HBAS6.out.b17)))
          go_meet
          case rel =>
            obtain ⟨r1, r2, r3⟩ := own_row (D := S.D ++ [⟨#[109, 111, 114, 101]⟩, ⟨#[97, 110, 100, 32, 109, 111, 114, 101]⟩]) (n := S.n + 2) (by rw [Nat.zero_add, List.nil_append, strVals, List.map_append]; exact hown2) (by omega)
            exact HBAS6.out.data _ _ _ _ r1 r2 (fun hc => by cases hc) (by rw [List.length_append]; have := HS8.out; simp; omega) (fun b2 o2 hbo => .inr (by injection hbo with e1; injection e1 with e1 e2; omega))
    case rest =>
      obtain ⟨o, HO, G17, G16, HD, HSok, hg17c⟩ := hcut
      have G8 := hide ((HD.out.low.block _ hg8).trans G8.out)
      have HRok := hide (HRok.out.keep HD.out.low)
      have HLW := hide (HLW.out.keep HD.out.low)
      clear c0 c1 c2 f0 f1 f2
      obtain ⟨c0, c1, c2, -, -, -⟩ := tri_cells G16.out
      obtain ⟨d0, d1, d2, -, -, -⟩ := tri_cells G17.out
      obtain ⟨e0, e1, e2, -, -, -⟩ := tri_cells G8.out
      clear HBAS HSn HSb HRAW HRAB HR HL hy HS8
      go_upto_block 1 with fail
      have GL := heap_alloc_new wc (.cells #[.int .i64 S.s, .int .i64 S.f, .slice S.p S.n S.c, .int .i64 o.s, .int .i64 o.f, .slice o.p o.n o.c, .int .i64 R.s, .int .i64 R.f, .slice R.p R.n R.c] 30)
      have HDV := hide (HD.out.alloc (.cells #[.int .i64 S.s, .int .i64 S.f, .slice S.p S.n S.c, .int .i64 o.s, .int .i64 o.f, .slice o.p o.n o.c, .int .i64 R.s, .int .i64 R.f, .slice R.p R.n R.c] 30))
      have hSV := HSok.out.keep (below1 (.cells #[.int .i64 S.s, .int .i64 S.f, .slice S.p S.n S.c, .int .i64 o.s, .int .i64 o.f, .slice o.p o.n o.c, .int .i64 R.s, .int .i64 R.f, .slice R.p R.n R.c] 30))
      have hOV := HO.out.keep (below1 (.cells #[.int .i64 S.s, .int .i64 S.f, .slice S.p S.n S.c, .int .i64 o.s, .int .i64 o.f, .slice o.p o.n o.c, .int .i64 R.s, .int .i64 R.f, .slice R.p R.n R.c] 30))
      have hRV := HRok.out.keep (below1 (.cells #[.int .i64 S.s, .int .i64 S.f, .slice S.p S.n S.c, .int .i64 o.s, .int .i64 o.f, .slice o.p o.n o.c, .int .i64 R.s, .int .i64 R.f, .slice R.p R.n R.c] 30))
      have HLV := hide (HLW.out.keep (below1 (.cells #[.int .i64 S.s, .int .i64 S.f, .slice S.p S.n S.c, .int .i64 o.s, .int .i64 o.f, .slice o.p o.n o.c, .int .i64 R.s, .int .i64 R.f, .slice R.p R.n R.c] 30)))
      have hglb : gd < wc.heap.size := HD.out.lt
      have hglV : wc.heap.size < (wc.alloc (.cells #[.int .i64 S.s, .int .i64 S.f, .slice S.p S.n S.c, .int .i64 o.s, .int .i64 o.f, .slice o.p o.n o.c, .int .i64 R.s, .int .i64 R.f, .slice R.p R.n R.c] 30)).heap.size := by simp
      clear HD HSok HO HRok HLW c0 c1 c2 d0 d1 d2 e0 e1 e2 G16 G17 G8
      generalize wc.alloc (.cells #[.int .i64 S.s, .int .i64 S.f, .slice S.p S.n S.c, .int .i64 o.s, .int .i64 o.f, .slice o.p o.n o.c, .int .i64 R.s, .int .i64 R.f, .slice R.p R.n R.c] 30) = V at *
      obtain ⟨gl, hgl⟩ : ∃ gl, wc.heap.size = gl := ⟨_, rfl⟩
      rw [hgl] at GL hglb hglV ⊢
      clear hgl
      have HY : Hid (∀ k, k < 3 → ∃ y : Sn, y.ok gd V ∧ V.cell? ⟨gl, k * 3, none⟩ = some (.int .i64 y.s) ∧ V.cell? ⟨gl, k * 3 + 1, none⟩ = some (.int .i64 y.f) ∧ V.cell? ⟨gl, k * 3 + 2, none⟩ = some (.slice y.p y.n y.c)) := fun k hk => by
        match k, hk with
        | 0, _ => exact ⟨S, hSV, by rw [cell_of_row _ _ _ _ _ _ GL]; rfl, by rw [cell_of_row _ _ _ _ _ _ GL]; rfl, by rw [cell_of_row _ _ _ _ _ _ GL]; rfl⟩
        | 1, _ => exact ⟨o, hOV, by rw [cell_of_row _ _ _ _ _ _ GL]; rfl, by rw [cell_of_row _ _ _ _ _ _ GL]; rfl, by rw [cell_of_row _ _ _ _ _ _ GL]; rfl⟩
        | 2, _ => exact ⟨R, hRV, by rw [cell_of_row _ _ _ _ _ _ GL]; rfl, by rw [cell_of_row _ _ _ _ _ _ GL]; rfl, by rw [cell_of_row _ _ _ _ _ _ GL]; rfl⟩
      clear GL hSV hOV hRV
      go_cut [] from 103 (fun wx => Hid (Die W1 a len cap gd wx))
      case first => as_aux_lemma =>
        go_wp2_with fail
        go_loopg [108] 3 (fun g iv wr => ∃ k : Nat, k ≤ 3 ∧ g = 3 - k ∧ iv = .int .i64 k ∧ Hid (St W1 a len cap gd V wr))
        case atStart => exact ⟨0, by omega, rfl, rfl, St.start HDV.out⟩
        case round => as_aux_lemma =>
          obtain ⟨k, hk, hgk, rfl, HS⟩ := hrel
          by_cases hlt : k < 3
          · obtain ⟨y, hyok, z0, z1, z2⟩ := HY.out k hlt
            have hne : gl ≠ gd := by omega
            have hyw := HS.out.ok hyok
            have z0 := HS.out.roll.cell z0 hne
            have z1 := HS.out.roll.cell z1 hne
            have z2 := HS.out.roll.cell z2 hne
            have dk : decide ((k : Int) < 3) = true := by simp; omega
            have dk' : decide (k < 3) = true := by simp; omega
            clear hyok hk
            go_upto_region 18 with fail
            have G19 := heap_alloc_new wr (.cells #[.int .i64 y.s, .int .i64 y.f, .slice y.p y.n y.c] 30)
            have HT := hide (HS.out.alloc (.cells #[.int .i64 y.s, .int .i64 y.f, .slice y.p y.n y.c] 30))
            have hyw := hyw.keep (below1 (.cells #[.int .i64 y.s, .int .i64 y.f, .slice y.p y.n y.c] 30))
            have hD19 := HS.out.die.lt
            clear z0 z1 z2
            generalize wr.alloc (.cells #[.int .i64 y.s, .int .i64 y.f, .slice y.p y.n y.c] 30) = V2 at *
            obtain ⟨g19, hg19⟩ : ∃ g, wr.heap.size = g := ⟨_, rfl⟩
            rw [hg19] at G19 hD19 ⊢
            have hne19 : g19 ≠ gd := by omega
            clear hg19
            have HLV2 := hide (HT.out.sp HDV.out HLV.out)
            have HY2 := hide hyw
            have HG19 := hide G19
            have HU := hide (St.start HT.out.die)
            obtain ⟨c0, c1, c2, -, -, -⟩ := tri_cells G19
            have qp := fun (w : World) (h : StrRow w y.p y.n y.D) => snd_push_any y.s y.f y.D x y.p y.n y.c (by have := hyw.2.2.2.1; omega) hyw.2.1 hyw.2.2.1 w h
            have qr := fun (w : World) (h : StrRow w y.p y.n y.D) => sref_push_any y.s y.f y.D x y.p y.n y.c (by have := hyw.2.2.2.1; omega) hyw.2.1 hyw.2.2.1 w h
            have hpl := pD_length y.s y.f y.D x
            have hyl := hyw.2.2.2.1
            have hyn : y.n ≤ 300 := by have := hyw.1.1; omega
            have HYN := hide hyw.1.1
            generalize pS y.s y.f y.D x = PS at *
            generalize pF y.s y.f y.D x = PF at *
            generalize pN y.s y.f y.D x = PN at *
            generalize pE y.s y.f y.D x = PE at *
            generalize pD y.s y.f y.D x = PD at *
            have QP := hide qp
            have QR := hide qr
            have HPL := hide hpl
            clear qp qr hyw G19 hpl
            go_upto_region 20 with (first
              | (go_at_call 12; (with_reducible refine (QP.out _ ?_).mono ?_); (focus exact HY2.out.1); rintro e w6 ⟨⟨p1, n1, cc1, rfl, hp1⟩, hb⟩; (have HU := hide (HU.out.below hb)); (have HP1 := hide hp1); clear c0 c1 c2; (obtain ⟨c0, c1, c2, -, -, -⟩ := tri_cells (HU.out.blk HG19.out hne19)); (have l0 := fun o => (tri_cells (pair_alloc (HU.out.blk HG19.out hne19) o)).1); (have l1 := fun o => (tri_cells (pair_alloc (HU.out.blk HG19.out hne19) o)).2.1); (have l2 := fun o => (tri_cells (pair_alloc (HU.out.blk HG19.out hne19) o)).2.2.1); clear hb hp1)
              | (go_at_call 17; (with_reducible refine (QR.out _ ?_).mono ?_); (focus exact ((HU.out.alloc _).ok HY2.out).1); rintro e w7 ⟨⟨p2, n2, cc2, rfl, hp2⟩, hb⟩; (have HU := hide ((HU.out.alloc _).below hb)); (have HP1 := hide ((HP1.out.keep (below1 _)).keep hb)); (have HP2 := hide hp2); clear l0 l1 l2; (have hg20 : w6.heap.size < w7.heap.size := by (have := hb.size; simp at this; omega)); (have G20 := hide ((hb.block w6.heap.size (by simp)).trans (heap_alloc_new w6 _))); clear c0 c1 c2; (obtain ⟨c0, c1, c2, -, -, -⟩ := tri_cells (HU.out.blk HG19.out hne19)); clear hb hp2))
            go_cut [108, 163] from 108 to 257 (fun iv v wx => iv = .int .i64 k ∧ v = .bool false ∧ Hid (St W1 a len cap gd V2 wx))
            case first => as_aux_lemma =>
              have HU8 := hide (HU.out.alloc (.cells #[.int .i64 PS, .int .i64 PF, .slice p2 n2 cc2] 30))
              have G23 := heap_alloc_new w7 (.cells #[.int .i64 PS, .int .i64 PF, .slice p2 n2 cc2] 30)
              have G20 := pair_alloc G20.out (.cells #[.int .i64 PS, .int .i64 PF, .slice p2 n2 cc2] 30)
              have HP1 := hide (HP1.out.keep (below1 (.cells #[.int .i64 PS, .int .i64 PF, .slice p2 n2 cc2] 30)))
              have HP2 := hide (HP2.out.keep (below1 (.cells #[.int .i64 PS, .int .i64 PF, .slice p2 n2 cc2] 30)))
              generalize w7.alloc (.cells #[.int .i64 PS, .int .i64 PF, .slice p2 n2 cc2] 30) = w8 at *
              clear c0 c1 c2
              obtain ⟨c0, c1, c2, -, -, -⟩ := tri_cells (HU8.out.blk HG19.out hne19)
              obtain ⟨m0, m1, m2, -, -, -⟩ := tri_cells G20
              obtain ⟨n0, n1', n2', -, -, -⟩ := tri_cells G23
              have k0 := fun p : More => cell_more c0 p
              have k1 := fun p : More => cell_more c1 p
              have k2 := fun p : More => cell_more c2 p
              have k3 := fun p : More => cell_more m0 p
              have k4 := fun p : More => cell_more m1 p
              have k5 := fun p : More => cell_more m2 p
              have k6 := fun p : More => cell_more n0 p
              have k7 := fun p : More => cell_more n1' p
              have k8 := fun p : More => cell_more n2' p
              have hys := (HU8.out.ok HY2.out).1
              have QSM := hide (fun p : More => more_of (sref_same PS PF PD p1 p2 n1 cc1 n2 cc2 (by have := HPL.out; omega) (more w8 p) (HP1.out.keep (below_more _ _)) (HP2.out.keep (below_more _ _))))
              have qv := fun p : More => more_of (snd_valid_any y.s y.f y.D y.p y.n y.c (by omega) (more w8 p) (hys.keep (below_more _ _)))
              have qw := fun p : More => more_of (sref_valid_any y.s y.f y.D y.p y.n y.c (by omega) (more w8 p) (hys.keep (below_more _ _)))
              have dl : decide ((y.n : Int) < 1000) = true := by simp; omega
              have dl' : decide (y.n < 1000) = true := by simp; omega
              by_cases hv : vldB y.s y.f y.D = true
              · rw [hv] at qv qw
                obtain ⟨s', f', hs', hf', hok⟩ := vld_ok hv
                obtain ⟨q, hq⟩ : ∃ q : Int, y.f + (y.n : Int) = q := ⟨_, rfl⟩
                have qx := fun p : More => more_of (snd_next y.s y.f y.p y.n y.c (by have := hok.2.2.2.1; omega) (by omega) (more w8 p))
                have qz := fun p : More => more_of (sref_next y.s y.f y.p y.n y.c (by have := hok.2.2.2.1; omega) (by omega) (more w8 p))
                rw [hq] at qx qz
                have QV := hide qv
                have QW := hide qw
                have QX := hide qx
                have QZ := hide qz
                clear qv qw qx qz hq hv hs' hf' hok hys c0 c1 c2 m0 m1 m2 n0 n1' n2' G20 G23
                refine wp_region_grown (by kernel_rfl) (by kernel_rfl) ?_
                repeat (go_big_quiet_step ((first
                  | (go_at_call 18; exact QSM.out _)
                  | (go_at_call 13; exact QV.out _)
                  | (go_at_call 19; exact QW.out _)
                  | (go_at_call 14; exact QX.out _)
                  | (go_at_call 20; exact QZ.out _))))
                refine wpQuiet_nil ?_
                intro w9 hb9
                go_wp2_with fail
                go_meet
                exact ⟨rfl, rfl, HU8.out.below hb9⟩
              · rw [show vldB y.s y.f y.D = false by simpa using hv] at qv qw
                have QV := hide qv
                have QW := hide qw
                clear qv qw hv hys c0 c1 c2 m0 m1 m2 n0 n1' n2' G20 G23
                refine wp_region_grown (by kernel_rfl) (by kernel_rfl) ?_
                repeat (go_big_quiet_step ((first
                  | (go_at_call 18; exact QSM.out _)
                  | (go_at_call 13; exact QV.out _)
                  | (go_at_call 19; exact QW.out _))))
                refine wpQuiet_nil ?_
                intro w9 hb9
                go_wp2_with fail
                go_meet
                exact ⟨rfl, rfl, HU8.out.below hb9⟩
            case rest =>
              obtain ⟨rfl, rfl, HU⟩ := hcut
              clear QP QR HPL HP1 HP2 G20 c0 c1 c2
              obtain ⟨c0, c1, c2, -, -, -⟩ := tri_cells (HU.out.blk HG19.out hne19)
              go_upto_region 22 with fail
              go_cut [108, 170, 171, 172] from 108 to 257 (fun iv v1 v2 v3 wx => iv = .int .i64 k ∧ ∃ B : Nat, v1 = .slice (some ⟨B, 0, none⟩) 3 3 ∧ v2 = .int .i64 3 ∧ v3 = .int .i64 0 ∧ Hid (IntBlk wx B 3 3) ∧ Hid (St W1 a len cap gd V2 wx) ∧ gd < B)
              case first => as_aux_lemma =>
                go_region_with (first
                  | (go_at_call 11; (with_reducible refine (made_next W1 a len cap gd 12 ?_ _ ?_).mono ?_); (focus omega); (focus first | exact HU.out.die | exact HU.out.die.drew); rintro e w10 ⟨⟨z, rfl, zz0, zz1⟩, hd1, hr1⟩; (have HU2 := hide ((HU.out.drew).rolls hd1 hr1)); clear hd1 hr1; (obtain ⟨b0, b1, b2, -, -, -⟩ := tri_cells (HU2.out.blk HG19.out hne19))))
                all_goals (go_wp2_with fail; go_meet)
                all_goals exact ⟨rfl, _, rfl, rfl, rfl, IntBlk.new _ _ _ rfl, HU2.out.alloc _, HU2.out.die.lt⟩
              case rest =>
                obtain ⟨rfl, B, rfl, rfl, rfl, HB, HU, hB⟩ := hcut
                clear c0 c1 c2
                go_wp2_with fail
                go_loopg [172] 3 (fun g iv wr => ∃ j : Nat, j ≤ 3 ∧ g = 3 - j ∧ iv = .int .i64 j ∧ Hid (St W1 a len cap gd wc wr))
                case atStart => exact ⟨0, by omega, rfl, rfl, St.start HU.out.die⟩
                case round => as_aux_lemma =>
                  obtain ⟨j, hj, hgj, rfl, HS2⟩ := hrel
                  have HU2 := hide (HU.out.trans HS2.out)
                  obtain ⟨c0, c1, c2, -, -, -⟩ := tri_cells (HU2.out.blk HG19.out hne19)
                  by_cases hlt2 : j < 3
                  · obtain ⟨v, hv⟩ := HB.out.cell hlt2
                    have hv := HS2.out.roll.cell hv (by show B ≠ gd; omega)
                    have dj : decide ((j : Int) < 3) = true := by simp; omega
                    have dj' : decide (j < 3) = true := by simp; omega
                    have qg := fun (w : World) (h : StrRow w y.p y.n y.D) => snd_get_any y.s y.f y.D v y.p y.n y.c (by omega) HY2.out.2.1 w h
                    have qh := fun (w : World) (h : StrRow w y.p y.n y.D) => sref_get_any y.s y.f y.D v y.p y.n y.c (by omega) HY2.out.2.1 w h
                    generalize gV y.s y.f y.D v = gv at qg qh
                    generalize gB y.s y.f y.D v = gb at qg qh
                    have QG := hide qg
                    have QH := hide qh
                    clear qg qh hj
                    go_wp2_with (first
                      | (go_at_call 15; (with_reducible refine (QG.out _ ?_).mono ?_); (focus exact (HU2.out.ok HY2.out).1); rintro e w11 ⟨rfl, hb⟩; (have HU2 := hide (HU2.out.below hb)); (have HS2 := hide (HS2.out.below hb)); clear c0 c1 c2; (obtain ⟨c0, c1, c2, -, -, -⟩ := tri_cells (HU2.out.blk HG19.out hne19)); clear hb)
                      | (go_at_call 21; (with_reducible refine (QH.out _ ?_).mono ?_); (focus exact (HU2.out.ok HY2.out).1); rintro e w11 ⟨rfl, hb⟩; (have HU2 := hide (HU2.out.below hb)); (have HS2 := hide (HS2.out.below hb)); clear c0 c1 c2; (obtain ⟨c0, c1, c2, -, -, -⟩ := tri_cells (HU2.out.blk HG19.out hne19)); clear hb))
                    go_roundg (3 - (j + 1))
                    case measure => omega
                    case rel => exact ⟨j + 1, by omega, rfl, by go_num, HS2.out⟩
                  · have hj3 : j = 3 := by omega
                    have dj : decide ((j : Int) < 3) = false := by simp; omega
                    have dj' : decide (j < 3) = false := by simp; omega
                    clear HB HU hB HS2 hlt2 hj hj3 hgj
                    go_upto_block 5 with (first
                      | (go_at_call 22; (with_reducible refine (made_spans _ HU2.out.die).mono ?_); rintro e w12 ⟨⟨L2, p3, cc3, rfl, hL5, hLs, hsp⟩, hd1, hr1⟩; (have HU3 := hide (HU2.out.rolls hd1 hr1)); (have HSP := hide hsp); clear hd1 hr1 hsp hLs))
                    have GS := heap_alloc_new w12 (.cells #[.slice pl nl cl, .slice p3 L2.length cc3] 41)
                    have HU4 := hide (HU3.out.alloc (.cells #[.slice pl nl cl, .slice p3 L2.length cc3] 41))
                    have HSP := hide (HSP.out.keep (below1 (.cells #[.slice pl nl cl, .slice p3 L2.length cc3] 41)))
                    have hd12 := HU3.out.die.lt
                    have HLV4 := hide (HU4.out.sp HT.out.die HLV2.out)
                    clear HU3 HU2 c0 c1 c2 dj dj'
                    generalize w12.alloc (.cells #[.slice pl nl cl, .slice p3 L2.length cc3] 41) = V4 at GS HU4 HSP HLV4 ⊢
                    obtain ⟨g4, hg4⟩ : ∃ g, w12.heap.size = g := ⟨_, rfl⟩
                    rw [hg4] at GS hd12 ⊢
                    clear hg4
                    have HSL : Hid (∀ m, m < 2 → ∃ (q : Option Addr) (nq cq : Nat) (LQ : List (Int × Int)), SpRow V4 q nq LQ ∧ LQ.length ≤ 20 ∧ V4.cell? ⟨g4, m, none⟩ = some (.slice q nq cq)) := fun m hm => by
                      match m, hm with
                      | 0, _ => exact ⟨pl, nl, cl, L, HLV4.out, HL20.out, by rw [cell_of_row _ _ _ _ _ _ GS]; rfl⟩
                      | 1, _ => exact ⟨p3, _, cc3, L2, HSP.out, by omega, by rw [cell_of_row _ _ _ _ _ _ GS]; rfl⟩
                    clear GS HSP HLV4
                    go_wp2_with fail
                    go_loopg [202] 2 (fun g iv wr => ∃ m : Nat, m ≤ 2 ∧ g = 2 - m ∧ iv = .int .i64 m ∧ Hid (St W1 a len cap gd V4 wr))
                    case atStart => exact ⟨0, by omega, rfl, rfl, St.start HU4.out.die⟩
                    case round => as_aux_lemma =>
                      obtain ⟨m, hm, hgm, rfl, HS3⟩ := hrel
                      by_cases hlt3 : m < 2
                      · obtain ⟨q, nq, cq, LQ, hsq, hlq, hcq⟩ := HSL.out m hlt3
                        have hcq := HS3.out.roll.cell hcq (by show g4 ≠ gd; omega)
                        have HSQ0 := hide hsq
                        have dm : decide ((m : Int) < 2) = true := by simp; omega
                        have dm' : decide (m < 2) = true := by simp; omega
                        clear hsq hm
                        go_upto_region 33 with fail
                        go_cut [202, 210, 211, 212] from 202 to 256 (fun iv v1 v2 v3 wx => iv = .int .i64 m ∧ ∃ B : Nat, v1 = .slice (some ⟨B, 0, none⟩) 3 3 ∧ v2 = .int .i64 3 ∧ v3 = .int .i64 0 ∧ Hid (IntBlk wx B 3 3) ∧ Hid (St W1 a len cap gd V4 wx) ∧ gd < B)
                        case first => as_aux_lemma =>
                          go_wp2_with (first
                            | (go_at_call 11; (with_reducible refine (made_next W1 a len cap gd 6 ?_ _ HS3.out.die).mono ?_); (focus omega); rintro e w13 ⟨⟨z, rfl, zz0, zz1⟩, hd1, hr1⟩; (have HS3 := hide (HS3.out.rolls hd1 hr1)); clear hd1 hr1))
                          go_meet
                          exact ⟨rfl, _, rfl, rfl, rfl, IntBlk.new _ _ _ rfl, HS3.out.alloc _, HS3.out.die.lt⟩
                        case rest =>
                          obtain ⟨rfl, B2, rfl, rfl, rfl, HB2, HS3, hB2⟩ := hcut
                          clear hcq
                          go_wp2_with fail
                          go_loopg [212] 3 (fun g iv wr => ∃ t : Nat, t ≤ 3 ∧ g = 3 - t ∧ iv = .int .i64 t ∧ Hid (St W1 a len cap gd wc wr))
                          case atStart => exact ⟨0, by omega, rfl, rfl, St.start HS3.out.die⟩
                          case round => as_aux_lemma =>
                            obtain ⟨t, ht, hgt, rfl, HS4⟩ := hrel
                            by_cases hlt4 : t < 3
                            · obtain ⟨v, hv⟩ := HB2.out.cell hlt4
                              have hv := HS4.out.roll.cell hv (by show B2 ≠ gd; omega)
                              have HU6 := hide ((HU4.out.trans HS3.out).trans HS4.out)
                              have HSQ := hide ((HS3.out.trans HS4.out).sp HU4.out.die HSQ0.out)
                              obtain ⟨c0, c1, c2, -, -, -⟩ := tri_cells (HU6.out.blk HG19.out hne19)
                              have dt : decide ((t : Int) < 3) = true := by simp; omega
                              have dt' : decide (t < 3) = true := by simp; omega
                              have qa := fun (w : World) (h : StrRow w y.p y.n y.D) (hl : SpRow w q nq LQ) => snd_ans_any y.s y.f y.D y.p y.n y.c (by omega) LQ q nq cq (by omega) v w h hl
                              have qb := fun (w : World) (h : StrRow w y.p y.n y.D) (hl : SpRow w q nq LQ) => sref_ans_any y.s y.f y.D y.p y.n y.c (by omega) LQ q nq cq (by omega) v w h hl
                              have hajl := aJ_length y.s y.f y.D LQ v
                              generalize aJ y.s y.f y.D LQ v = J at qa qb hajl
                              generalize aE y.s y.f y.D v = ae at qa qb
                              obtain ⟨lj, hlj⟩ : ∃ lj, J.length = lj := ⟨_, rfl⟩
                              rw [hlj] at qa qb hajl
                              have hlj3 : lj ≤ 300 := by omega
                              clear hajl
                              have QA := hide qa
                              have QB := hide qb
                              have HLJ := hide hlj
                              clear qa qb ht hlj
                              go_upto_block 9 with (first
                                | (go_at_call 23; (with_reducible refine (QA.out _ ?_ ?_).mono ?_); (focus exact (HU6.out.ok HY2.out).1); (focus exact HSQ.out); rintro e w14 ⟨⟨a1, cc4, rfl, hn1⟩, hb⟩; (have HU6 := hide (HU6.out.below hb)); (have HS4 := hide (HS4.out.below hb)); (have HSQ := hide (HSQ.out.keep hb)); (have N1 := hide hn1); clear c0 c1 c2; (obtain ⟨c0, c1, c2, -, -, -⟩ := tri_cells (HU6.out.blk HG19.out hne19)); clear hb hn1)
                                | (go_at_call 24; (with_reducible refine (QB.out _ ?_ ?_).mono ?_); (focus exact (HU6.out.ok HY2.out).1); (focus exact HSQ.out); rintro e w15 ⟨⟨a2, cc5, rfl, hn2⟩, hb⟩; (have HU6 := hide (HU6.out.below hb)); (have HS4 := hide (HS4.out.below hb)); (have N1 := hide (N1.out.keep hb)); (have N2 := hide hn2); clear hb hn2 c0 c1 c2))
                              go_wp2_with fail
                              go_loopg [242] lj (fun g iv wr => ∃ r : Nat, r ≤ lj ∧ g = lj - r ∧ iv = .int .i64 r ∧ Hid (Below w15.heap.size w15 wr))
                              case atStart => exact ⟨0, by omega, rfl, rfl, Below.refl _ _⟩
                              case round => as_aux_lemma =>
                                obtain ⟨r, hrl, hgr, rfl, HB7⟩ := hrel
                                by_cases hlt5 : r < lj
                                · have hlJ : J.length = lj := HLJ.out
                                  obtain ⟨-, hz | ⟨b1, o1, rfl, hq1⟩⟩ := N1.out
                                  · omega
                                  obtain ⟨-, hz | ⟨b2, o2, rfl, hq2⟩⟩ := N2.out
                                  · omega
                                  have hkR : r < J.length := by omega
                                  have y1 : wr.cell? ⟨b1, o1 + r, none⟩ = some (.int .i64 (J[r] : Nat)) := by rw [HB7.out.cell (block_lt_of_cell (hq1 r hkR))]; exact hq1 r hkR
                                  have y2 : wr.cell? ⟨b2, o2 + r, none⟩ = some (.int .i64 (J[r] : Nat)) := by rw [HB7.out.cell (block_lt_of_cell (hq2 r hkR))]; exact hq2 r hkR
                                  generalize J[r] = jj at y1 y2
                                  have dr : decide ((r : Int) < (lj : Int)) = true := by simp; omega
                                  have dr' : decide (r < lj) = true := by simp; omega
                                  have hrI : (r : Int) < (lj : Int) := by omega
                                  clear hq1 hq2 hkR hlJ hrl
                                  go_wp2
                                  go_region
                                  go_wp2
                                  go_roundg (lj - (r + 1))
                                  case measure => omega
                                  case rel => exact ⟨r + 1, by omega, rfl, by go_num, hide HB7.out.drew⟩
                                · have hr5 : r = lj := by omega
                                  have dr : decide ((r : Int) < (lj : Int)) = false := by simp; omega
                                  have dr' : decide (r < lj) = false := by simp; omega
                                  have HS4 := hide (HS4.out.below HB7.out)
                                  have HR5 := hide hr5
                                  clear hrl hlt5 hr5 N1 N2
                                  go_wp2_with fail
                                  go_roundg (3 - (t + 1))
                                  case measure => omega
                                  case rel => exact ⟨t + 1, by omega, rfl, by go_num, HS4.out⟩
                            · have ht3 : t = 3 := by omega
                              have HT3 := hide ht3
                              have dt : decide ((t : Int) < 3) = false := by simp; omega
                              have dt' : decide (t < 3) = false := by simp; omega
                              have HS3 := hide (HS3.out.trans HS4.out)
                              clear ht hlt4 ht3
                              go_wp2_with fail
                              go_roundg (2 - (m + 1))
                              case measure => omega
                              case rel => exact ⟨m + 1, by omega, rfl, by go_num, HS3.out⟩
                      · have hm2 : m = 2 := by omega
                        have dm : decide ((m : Int) < 2) = false := by simp; omega
                        have dm' : decide (m < 2) = false := by simp; omega
                        clear hm hlt3 hm2
                        go_wp2_with fail
                        go_roundg (3 - (k + 1))
                        case measure => omega
                        case rel => exact ⟨k + 1, by omega, rfl, by go_num, (HT.out.trans HU4.out).trans HS3.out⟩
          · have dk : decide ((k : Int) < 3) = false := by simp; omega
            have dk' : decide (k < 3) = false := by simp; omega
            clear hlt hk
            go_wp2_with fail
            go_meet
            case rel => exact HS.out.die
      case rest =>
        clear HDV HLV HY
        have HD := hide hcut.out
        have hnL : Hid (∀ V : World, Calls Try.prog 10 #[.int .i64 size] V fun e w' => e = .returned (.tuple #[.agg #[.int .i64 (nS size), .int .i64 0, .slice none 0 0], .int .i64 (nE size)]) ∧ Below V.heap.size V w') := fun V => snd_new_any size V
        have hnR : Hid (∀ V : World, Calls Try.prog 25 #[.int .i64 size] V fun e w' => e = .returned (.tuple #[.agg #[.int .i64 (nS size), .int .i64 0, .slice none 0 0], .int .i64 (nE size)]) ∧ Below V.heap.size V w') := fun V => sref_new_any size V
        generalize nS size = ns at hnL hnR
        generalize nE size = ne at hnL hnR
        have QSM := hide (fun V : World => sref_same ns 0 [] none none 0 0 0 0 (by simp) V ⟨rfl, .inl rfl⟩ ⟨rfl, .inl rfl⟩)
        clear hcut
        go_upto_region 51 with (first
          | (go_at_call 10; (with_reducible refine (hnL.out _).mono ?_); rintro e w6 ⟨rfl, hb⟩; (have HD := hide (HD.out.keep hb)); clear hb)
          | (go_at_call 25; (with_reducible refine (hnR.out _).mono ?_); rintro e w7 ⟨rfl, hb⟩; (have HD := hide ((HD.out.alloc _).keep hb)); (have G41 := hide ((hb.block w6.heap.size (by simp)).trans (heap_alloc_new w6 _))); clear hb))
        have G43 := heap_alloc_new w7 (.cells #[.int .i64 ns, .int .i64 0, .slice none 0 0] 30)
        have G41 := pair_alloc G41.out (.cells #[.int .i64 ns, .int .i64 0, .slice none 0 0] 30)
        have HD := hide (HD.out.alloc (.cells #[.int .i64 ns, .int .i64 0, .slice none 0 0] 30))
        generalize w7.alloc (.cells #[.int .i64 ns, .int .i64 0, .slice none 0 0] 30) = w8 at G43 G41 HD ⊢
        obtain ⟨m0, m1, m2, -, -, -⟩ := tri_cells G41
        obtain ⟨n0, n1, n2, -, -, -⟩ := tri_cells G43
        clear G41 G43
        go_wp2_with (first
          | (go_at_call 18; (with_reducible refine (QSM.out _).mono ?_); rintro e w9 ⟨rfl, hb⟩; (have HD := hide (HD.out.keep hb)); clear hb)
          | (go_at_call 7; (with_reducible refine (QS.out _).mono ?_); rintro e w5 ⟨rfl, hb⟩; (have HD := hide (HD.out.keep hb)); clear hb))
        go_ret
        exact ⟨rfl, HB1.out.trans (HD.out.low.mono HB1.out.size)⟩
  · rw [not_and] at hgood
    have hc : (len ≤ 500 ∧ R.n ≤ 40 ∧ x.size ≤ 300 ∧ 20 < nl) ∨ (len ≤ 500 ∧ R.n ≤ 40 ∧ 300 < x.size) ∨ (len ≤ 500 ∧ 40 < R.n) ∨ 500 < len := by
      by_cases g1 : len ≤ 500
      · by_cases g2 : R.n ≤ 40
        · by_cases g3 : x.size ≤ 300
          · exact .inl ⟨g1, g2, g3, by have := hgood g1; omega⟩
          · exact .inr (.inl ⟨g1, g2, by omega⟩)
        · exact .inr (.inr (.inl ⟨g1, by omega⟩))
      · exact .inr (.inr (.inr (by omega)))
    clear hgood hr hraw1 hraw2 hraw3 hraw4 hl h1 h2 h3
    have hxs := hx
    rcases hc with ⟨g1, g2, g3, g4⟩ | ⟨g1, g2, g3⟩ | ⟨g1, g2⟩ | g1
    · have d2 : decide ((40 : Int) < (R.n : Int)) = false := by simp; omega
      have d2' : decide (40 < R.n) = false := by simp; omega
      have d3 : decide ((300 : Int) < (x.size : Int)) = false := by simp; omega
      have d3' : decide (300 < x.size) = false := by simp; omega
      have d4 : decide ((20 : Int) < (nl : Int)) = true := by simp; omega
      have d4' : decide (20 < nl) = true := by simp; omega
      rw [decide_eq_true g1] at q1
      have Q1 := hide q1
      clear q1 g1 g2 g3 g4 hx hxs
      go_enter Try.func4, Try.ntmps4
      go_wp2_with (first
        | (go_at_call 6; (with_reducible refine (Q1.out _).mono ?_); rintro e w1 ⟨rfl, rfl⟩)
        | (go_at_call 7; (with_reducible refine (QS.out _).mono ?_); rintro e w5 ⟨rfl, hb⟩))
      go_ret
      exact ⟨rfl, (below1 _).trans (hb.mono (by simp))⟩
    · have d2 : decide ((40 : Int) < (R.n : Int)) = false := by simp; omega
      have d2' : decide (40 < R.n) = false := by simp; omega
      have d3 : decide ((300 : Int) < (x.size : Int)) = true := by simp; omega
      have d3' : decide (300 < x.size) = true := by simp; omega
      rw [decide_eq_true g1] at q1
      have Q1 := hide q1
      clear q1 g1 g2 g3 hx hxs
      go_enter Try.func4, Try.ntmps4
      go_wp2_with (first
        | (go_at_call 6; (with_reducible refine (Q1.out _).mono ?_); rintro e w1 ⟨rfl, rfl⟩)
        | (go_at_call 7; (with_reducible refine (QS.out _).mono ?_); rintro e w5 ⟨rfl, hb⟩))
      go_ret
      exact ⟨rfl, (below1 _).trans (hb.mono (by simp))⟩
    · have d2 : decide ((40 : Int) < (R.n : Int)) = true := by simp; omega
      have d2' : decide (40 < R.n) = true := by simp; omega
      rw [decide_eq_true g1] at q1
      have Q1 := hide q1
      clear q1 g1 g2 hx hxs
      go_enter Try.func4, Try.ntmps4
      go_wp2_with (first
        | (go_at_call 6; (with_reducible refine (Q1.out _).mono ?_); rintro e w1 ⟨rfl, rfl⟩)
        | (go_at_call 7; (with_reducible refine (QS.out _).mono ?_); rintro e w5 ⟨rfl, hb⟩))
      go_ret
      exact ⟨rfl, (below1 _).trans (hb.mono (by simp))⟩
    · rw [decide_eq_false (by omega : ¬ len ≤ 500)] at q1
      have Q1 := hide q1
      clear q1 g1 hx hxs
      go_enter Try.func4, Try.ntmps4
      go_wp2_with (first
        | (go_at_call 6; (with_reducible refine (Q1.out _).mono ?_); rintro e w1 ⟨rfl, rfl⟩)
        | (go_at_call 7; (with_reducible refine (QS.out _).mono ?_); rintro e w5 ⟨rfl, hb⟩))
      go_ret
      exact ⟨rfl, (below1 _).trans (hb.mono (by simp))⟩
end Go.Proofs.Ytpniokkllkjhhaa
