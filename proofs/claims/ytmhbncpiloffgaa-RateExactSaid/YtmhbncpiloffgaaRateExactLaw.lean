/- The walk of the statement RateExact. (written by gen_ratex.py) -/
import Derived.Test.YtmhbncpiloffgaaRateS
import Derived.Test.YtmhbncpiloffgaaSumAny
import Derived.Test.YtmhbncpiloffgaaBlkInt
import Derived.Deep.LoopGhost
import Derived.Deep.CutRange
import Derived.Deep.CutBlock
namespace Go.Proofs.Ytmhbncpiloffgaa
open Go.RowKit
set_option linter.unusedVariables false
set_option linter.unusedSimpArgs false
structure RtA (W : World) (a : Option Addr) (len cap g : Nat) (V : World) (g7 g14 : Nat) (rn rd n d : Int) (L : Nat → Bool) (u : Nat → Value) (x : World) : Prop where
  st : St W a len cap g V x
  h14 : x.heap[g14]? = some (.cells #[.int .i64 n, .int .i64 d] 27 (0, 0))
  h7 : x.heap[g7]? = some (.cells #[.int .i64 rn, .int .i64 rd] 27 (0, 0))
  f0 : L 0 = true → u 71 = .agg #[.int .i64 n, .int .i64 d]
  f1 : L 1 = true → u 72 = .agg #[.int .i64 rn, .int .i64 rd]
  f2 : L 2 = true → u 73 = (.pointer (some ⟨g, 0, none⟩))
  f3 : L 3 = true → ∃ B : Nat, u 74 = .slice (some ⟨B, 0, none⟩) 3 3 ∧ V.heap.size ≤ B ∧ x.heap[B]? = some (.cells #[.int .i64 2, .int .i64 4097, .int .i64 0] 3 (0, 0))
  f4 : L 4 = true → ∃ z : Int, u 75 = .int .i64 z
  f5 : L 5 = true → u 76 = (.pointer (some ⟨g, 0, none⟩))
  f6 : L 6 = true → ∃ B : Nat, u 77 = .slice (some ⟨B, 0, none⟩) 2 2 ∧ V.heap.size ≤ B ∧ x.heap[B]? = some (.cells #[.int .i64 4, .int .i64 1] 3 (0, 0))
  f7 : L 7 = true → ∃ z : Int, u 78 = .int .i64 z
  f8 : L 8 = true → ∃ z1 z2 : Int, u 79 = .agg #[.int .i64 z1, .int .i64 z2]
  f9 : L 9 = true → ∃ (z1 z2 : Int) (B : Nat) (cells : Array Value), u 80 = .slice (some ⟨B, 0, none⟩) 3 3 ∧ V.heap.size ≤ B ∧ x.heap[B]? = some (.cells cells 27 (0, 0)) ∧ Parts 2 [.agg #[.int .i64 n, .int .i64 d], .agg #[.int .i64 rn, .int .i64 rd], .agg #[.int .i64 z1, .int .i64 z2]] cells
  f10 : L 10 = true → u 81 = .int .i64 3
  f11 : L 11 = true → u 82 = .int .i64 0
theorem RtA.rolls {W : World} {a : Option Addr} {len cap g : Nat} {V : World} {g7 g14 : Nat} {rn rd n d : Int} {L : Nat → Bool} {u : Nat → Value} {x y : World} (h : RtA W a len cap g V g7 g14 rn rd n d L u x) (hg : g < V.heap.size) (h7 : g7 ≠ g) (h14 : g14 ≠ g) (hd : Die W a len cap g y) (hr : Rolls g x y) : RtA W a len cap g V g7 g14 rn rd n d L u y :=
  { h with
    st := h.st.rolls hd hr
    h7 := hr.blk h.h7 h7
    h14 := hr.blk h.h14 h14
    f3 := fun e => by
      obtain ⟨B, h1, h2, h3⟩ := h.f3 e
      exact ⟨B, h1, h2, hr.blk h3 (by omega)⟩
    f6 := fun e => by
      obtain ⟨B, h1, h2, h3⟩ := h.f6 e
      exact ⟨B, h1, h2, hr.blk h3 (by omega)⟩
    f9 := fun e => by
      obtain ⟨z1, z2, B, cells, h1, h2, h3, h4⟩ := h.f9 e
      exact ⟨z1, z2, B, cells, h1, h2, hr.blk h3 (by omega), h4⟩ }
set_option maxHeartbeats 16000000 in
set_option maxRecDepth 100000 in
theorem rate_exact (a : Option Addr) (len cap : Nat) (rn rd start k x factor : Int) (W0 : World) (hr : IntRow W0 a len) (h1 : -9223372036854775808 ≤ start ∧ start ≤ 9223372036854775807) (h2 : -9223372036854775808 ≤ k ∧ k ≤ 9223372036854775807) (h3 : -9223372036854775808 ≤ x ∧ x ≤ 9223372036854775807) (h4 : -9223372036854775808 ≤ factor ∧ factor ≤ 9223372036854775807) :
    Calls Try.prog 7 #[.slice a len cap, .agg #[.int .i64 rn, .int .i64 rd], .int .i64 start, .int .i64 k, .int .i64 x, .int .i64 factor] W0 fun e w' => e = .returned (.bool true) ∧ Below W0.heap.size W0 w' := by
  have QS := hide (fun w => rate_sane w)
  have HB0 := hide (below1 (w := W0) (.cells #[.int .i64 rn, .int .i64 rd] 27))
  have G7 := hide (heap_alloc_new W0 (.cells #[.int .i64 rn, .int .i64 rd] 27))
  have HR := hide (hr.keep HB0.out)
  have q1 := fun w => made_light a len cap hr.1 w
  clear h1 h2 h3 h4 hr
  go_enter Try.func7, Try.ntmps7
  go_upto_region 1 with fail
  generalize hg7 : W0.heap.size = g7 at G7 ⊢
  generalize W0.alloc (.cells #[.int .i64 rn, .int .i64 rd] 27) = W at G7 HB0 HR ⊢
  by_cases hlen : len ≤ 500
  rotate_left
  · rw [decide_eq_false hlen] at q1
    have Q1 := hide q1
    clear q1 hlen
    go_wp2_with (first
      | (go_at_call 8; (with_reducible refine (Q1.out _).mono ?_); rintro e w1 ⟨rfl, rfl⟩)
      | (go_at_call 9; (with_reducible refine (QS.out _).mono ?_); rintro e w2 ⟨rfl, hb⟩))
    go_ret
    exact ⟨rfl, HB0.out.trans (hb.mono HB0.out.size)⟩
  rw [decide_eq_true hlen] at q1
  have Q1 := hide q1
  have Q2 := hide (made_roll a len cap W HR.out)
  have h7g : g7 < W.heap.size := heap_lt G7.out
  clear q1 hlen HR
  go_upto_region 4 with (first
      | (go_at_call 8; (with_reducible refine (Q1.out _).mono ?_); rintro e w1 ⟨rfl, rfl⟩)
      | (go_at_call 10; (with_reducible refine (Q2.out).mono ?_); rintro e w2 ⟨rfl, hd1⟩; (have HD := hide hd1); clear hd1))
  obtain ⟨g, hgg⟩ : ∃ g, W.heap.size = g := ⟨_, rfl⟩
  rw [hgg] at HD h7g ⊢
  go_upto_region 5 with (first
      | (go_at_call 11; (with_reducible refine (made_rate _ HD.out).mono ?_); rintro e w3 ⟨⟨n, d, rfl, hok⟩, hd1, hr1⟩; (have HD := hide hd1); clear hd1 hr1 hok))
  have G14 := hide (heap_alloc_new w3 (.cells #[.int .i64 n, .int .i64 d] 27))
  have h14 : g < w3.heap.size := HD.out.lt
  have HD := hide (HD.out.alloc (.cells #[.int .i64 n, .int .i64 d] 27))
  generalize w3.alloc (.cells #[.int .i64 n, .int .i64 d] 27) = V at G14 HD ⊢
  generalize w3.heap.size = g14 at G14 h14 ⊢
  have G7 := hide (show V.heap[g7]? = _ from (HD.out.low.block g7 (by omega)).trans G7.out)
  obtain ⟨n, hn⟩ : ∃ z : Int, (n : Int) = z := ⟨_, rfl⟩
  obtain ⟨d, hd⟩ : ∃ z : Int, (d : Int) = z := ⟨_, rfl⟩
  rw [hn, hd] at G14 ⊢
  clear hn hd
  have HGV := hide HD.out.lt
  have HBW := hide (show Below W0.heap.size W0 W from HB0.out)
  go_cut [80, 81, 82] from 63 to 83 (fun s80 s81 s82 wx => s81 = .int .i64 3 ∧ s82 = .int .i64 0 ∧ ∃ (z1 z2 : Int) (B : Nat) (cells : Array Value), s80 = .slice (some ⟨B, 0, none⟩) 3 3 ∧ V.heap.size ≤ B ∧ Hid (wx.heap[B]? = some (.cells cells 27 (0, 0))) ∧ Hid (Parts 2 [.agg #[.int .i64 n, .int .i64 d], .agg #[.int .i64 rn, .int .i64 rd], .agg #[.int .i64 z1, .int .i64 z2]] cells) ∧ Hid (St W a len cap g V wx))
  case first => as_aux_lemma =>
    refine wp_region_inv2 (fun L a' w' => ∃ u : Nat → Value, a' = { tmps := #[Value.slice a len cap, Value.agg #[Value.int IntKind.i64 rn, Value.int IntKind.i64 rd], Value.int IntKind.i64 start, Value.int IntKind.i64 k, Value.int IntKind.i64 x, Value.int IntKind.i64 factor, undef, Value.pointer (some ⟨g7, 0, none⟩), undef, undef, undef, undef, Value.bool false, Value.pointer (some ⟨g, 0, none⟩), Value.pointer (some ⟨g14, 0, none⟩), undef, undef, undef, undef, undef, undef, undef, undef, undef, undef, undef, undef, undef, undef, undef, undef, undef, undef, undef, undef, undef, undef, undef, undef, undef, undef, undef, undef, undef, undef, undef, undef, undef, undef, undef, undef, undef, undef, undef, undef, undef, undef, undef, undef, undef, undef, undef, undef, Value.slice a len cap, Value.bool true, Value.bool false, undef, Value.slice a len cap, Value.pointer (some ⟨g, 0, none⟩), Value.pointer (some ⟨g, 0, none⟩), Value.agg #[Value.int IntKind.i64 ↑n, Value.int IntKind.i64 ↑d] , u 71, u 72, u 73, u 74, u 75, u 76, u 77, u 78, u 79, u 80, u 81, u 82, undef, undef, undef, undef, undef, undef, undef, undef, undef, undef, undef, undef, undef, undef, undef, undef, undef, undef, undef, undef, undef, undef, undef, undef, undef, undef, undef, undef, undef, undef, undef, undef, undef, undef, undef, undef, undef, undef, undef, undef, undef, undef, undef, undef, undef, undef, undef, undef, undef, undef, undef, undef, undef, undef, undef, undef, undef, undef, undef, undef, undef, undef, undef, undef, undef, undef, undef, undef, undef, undef, undef, undef, undef, undef, undef, undef, undef, undef, undef, undef, undef, undef, undef, undef, undef, undef, undef, undef, undef, undef, undef, undef, undef, undef, undef, undef, undef, undef, undef, undef, undef, undef, undef, undef, undef, undef, undef, undef, undef, undef, undef, undef, undef, undef, undef, undef, undef, undef, undef, undef, undef, undef, undef, undef, undef, undef, undef, undef, undef, undef, undef, undef, undef, undef, undef, undef, undef, undef, undef, undef, undef, undef, undef, undef, undef, undef, undef, undef, undef, undef, undef, undef, undef, undef, undef, undef, undef, undef, undef, undef, undef, undef, undef, undef, undef, undef, undef, undef, undef, undef, undef, undef, undef, undef, undef, undef, undef, undef, undef, undef, undef, undef, undef, undef, undef, undef, undef, undef, undef, undef, undef, undef, undef, undef, undef, undef, undef, undef, undef, undef, undef, undef, undef, undef, undef, undef, undef, undef, undef, undef, undef, undef, undef, undef, undef, undef, undef, undef, undef, undef, undef, undef, undef, undef, undef, undef, undef, undef, undef, undef, undef, undef, undef, undef, undef, undef, undef, undef, undef, undef, undef, undef, undef, undef, undef, undef, undef, undef, undef, undef, undef, undef, undef, undef, undef, undef, undef, undef, undef, undef, undef, undef, undef, undef, undef], defers := [] } ∧ RtA W a len cap g V g7 g14 rn rd n d L u w') (by kernel_rfl) (by kernel_rfl) ?h0 ?hs ?hd
    case h0 =>
      exact ⟨fun _ => undef, rfl, { st := (St.start HD.out).drew, h14 := G14.out, h7 := G7.out, f0 := fun e => Bool.noConfusion e, f1 := fun e => Bool.noConfusion e, f2 := fun e => Bool.noConfusion e, f3 := fun e => Bool.noConfusion e, f4 := fun e => Bool.noConfusion e, f5 := fun e => Bool.noConfusion e, f6 := fun e => Bool.noConfusion e, f7 := fun e => Bool.noConfusion e, f8 := fun e => Bool.noConfusion e, f9 := fun e => Bool.noConfusion e, f10 := fun e => Bool.noConfusion e, f11 := fun e => Bool.noConfusion e }⟩
    case hs =>
      refine (Steps2.cons ?_ (Steps2.cons ?_ (Steps2.cons ?_ (Steps2.cons ?_ (Steps2.cons ?_ (Steps2.cons ?_ (Steps2.cons ?_ (Steps2.cons ?_ (Steps2.cons ?_ (Steps2.cons ?_ (Steps2.cons ?_ (Steps2.cons ?_ Steps2.nil))))))))))))
      · intro L a' x hL hcl hc hI K' hK
        obtain ⟨u, rfl, hC⟩ := hI
        have HK := hide hK
        have HC := hide hC
        clear hK hC hc
        obtain ⟨m0, m1, -, -⟩ := die_pair HC.out.h14
        go_simp
        exact HK.out _ _ ⟨fun s => if s = 71 then .agg #[.int .i64 n, .int .i64 d] else u s, rfl, { HC.out with f0 := fun _ => rfl }⟩
      · intro L a' x hL hcl hc hI K' hK
        obtain ⟨u, rfl, hC⟩ := hI
        have HK := hide hK
        have HC := hide hC
        clear hK hC hc
        obtain ⟨m0, m1, -, -⟩ := die_pair HC.out.h7
        go_simp
        exact HK.out _ _ ⟨fun s => if s = 72 then .agg #[.int .i64 rn, .int .i64 rd] else u s, rfl, { HC.out with f1 := fun _ => rfl }⟩
      · intro L a' x hL hcl hc hI K' hK
        obtain ⟨u, rfl, hC⟩ := hI
        have HK := hide hK
        have HC := hide hC
        clear hK hC hc
        go_simp
        exact HK.out _ _ ⟨fun s => if s = 73 then (.pointer (some ⟨g, 0, none⟩)) else u s, rfl, { HC.out with f2 := fun _ => rfl }⟩
      · intro L a' x hL hcl hc hI K' hK
        obtain ⟨u, rfl, hC⟩ := hI
        have HK := hide hK
        have HC := hide hC
        clear hK hC hc
        go_simp
        exact HK.out _ _ ⟨fun s => if s = 74 then .slice (some ⟨x.heap.size, 0, none⟩) 3 3 else u s, rfl, { (HC.out.rolls HGV.out (by omega) (by omega) (HC.out.st.die.alloc _) (Rolls.of_below (below1 _))) with f3 := fun _ => ⟨x.heap.size, rfl, HC.out.st.roll.size, heap_alloc_new _ _⟩ }⟩
      · intro L a' x hL hcl hc hI K' hK
        obtain ⟨u, rfl, hC⟩ := hI
        have d2 : L 2 = true := hc ⟨2, .data⟩ (by simp) rfl
        have d3 : L 3 = true := hc ⟨3, .data⟩ (by simp) rfl
        have HK := hide hK
        have HC := hide hC
        clear hK hC hc
        have e73 := HC.out.f2 d2
        obtain ⟨B, e74, hB, hcB⟩ := HC.out.f3 d3
        have HCB := hide hcB
        clear hcB
        go_simp
        go_at_call 19
        refine (made_pick2 (W := W) (a := a) (len := len) (cap := cap) (g := g) (fun _ => true) #[.int .i64 2, .int .i64 4097, .int .i64 0] 3 rfl (by omega) rfl x HC.out.st.die HCB.out (by have := HGV.out; omega)).mono ?_
        rintro en y ⟨⟨z, rfl, -⟩, hd1, hr1⟩
        exact HK.out _ _ ⟨fun s => if s = 75 then .int .i64 z else u s, by simp [e73, e74], { (HC.out.rolls HGV.out (by omega) (by omega) hd1 hr1) with f4 := fun _ => ⟨z, rfl⟩ }⟩
      · intro L a' x hL hcl hc hI K' hK
        obtain ⟨u, rfl, hC⟩ := hI
        have HK := hide hK
        have HC := hide hC
        clear hK hC hc
        go_simp
        exact HK.out _ _ ⟨fun s => if s = 76 then (.pointer (some ⟨g, 0, none⟩)) else u s, rfl, { HC.out with f5 := fun _ => rfl }⟩
      · intro L a' x hL hcl hc hI K' hK
        obtain ⟨u, rfl, hC⟩ := hI
        have HK := hide hK
        have HC := hide hC
        clear hK hC hc
        go_simp
        exact HK.out _ _ ⟨fun s => if s = 77 then .slice (some ⟨x.heap.size, 0, none⟩) 2 2 else u s, rfl, { (HC.out.rolls HGV.out (by omega) (by omega) (HC.out.st.die.alloc _) (Rolls.of_below (below1 _))) with f6 := fun _ => ⟨x.heap.size, rfl, HC.out.st.roll.size, heap_alloc_new _ _⟩ }⟩
      · intro L a' x hL hcl hc hI K' hK
        obtain ⟨u, rfl, hC⟩ := hI
        have d5 : L 5 = true := hc ⟨5, .data⟩ (by simp) rfl
        have d6 : L 6 = true := hc ⟨6, .data⟩ (by simp) rfl
        have d4 : L 4 = true := hc ⟨4, .chain⟩ (by simp) rfl
        have HK := hide hK
        have HC := hide hC
        clear hK hC hc
        have e76 := HC.out.f5 d5
        obtain ⟨B, e77, hB, hcB⟩ := HC.out.f6 d6
        have HCB := hide hcB
        clear hcB
        go_simp
        go_at_call 19
        refine (made_pick2 (W := W) (a := a) (len := len) (cap := cap) (g := g) (fun _ => true) #[.int .i64 4, .int .i64 1] 2 rfl (by omega) rfl x HC.out.st.die HCB.out (by have := HGV.out; omega)).mono ?_
        rintro en y ⟨⟨z, rfl, -⟩, hd1, hr1⟩
        exact HK.out _ _ ⟨fun s => if s = 78 then .int .i64 z else u s, by simp [e76, e77], { (HC.out.rolls HGV.out (by omega) (by omega) hd1 hr1) with f7 := fun _ => ⟨z, rfl⟩ }⟩
      · intro L a' x hL hcl hc hI K' hK
        obtain ⟨u, rfl, hC⟩ := hI
        have d4 : L 4 = true := hc ⟨4, .data⟩ (by simp) rfl
        have d7 : L 7 = true := hc ⟨7, .data⟩ (by simp) rfl
        have HK := hide hK
        have HC := hide hC
        clear hK hC hc
        obtain ⟨z1, e75⟩ := HC.out.f4 d4
        obtain ⟨z2, e78⟩ := HC.out.f7 d7
        go_simp
        exact HK.out _ _ ⟨fun s => if s = 79 then .agg #[.int .i64 z1, .int .i64 z2] else u s, by simp [e75, e78], { HC.out with f8 := fun _ => ⟨z1, z2, rfl⟩ }⟩
      · intro L a' x hL hcl hc hI K' hK
        obtain ⟨u, rfl, hC⟩ := hI
        have d0 : L 0 = true := hc ⟨0, .data⟩ (by simp) rfl
        have d1 : L 1 = true := hc ⟨1, .data⟩ (by simp) rfl
        have d8 : L 8 = true := hc ⟨8, .data⟩ (by simp) rfl
        have HK := hide hK
        have HC := hide hC
        clear hK hC hc
        have e71 := HC.out.f0 d0
        have e72 := HC.out.f1 d1
        obtain ⟨z1, z2, e79⟩ := HC.out.f8 d8
        refine wp_buildRows 45 27 3 _ rfl 2 [.agg #[.int .i64 n, .int .i64 d], .agg #[.int .i64 rn, .int .i64 rd], .agg #[.int .i64 z1, .int .i64 z2]] Try.underlying45 (by kernel_rfl) (by kernel_rfl) rfl (by decide) (by simp [Value.cells]) (by simp [Act.eval, e71, e72, e79, List.zipIdx]) ?_
        intro cells hcells
        exact HK.out _ _ ⟨fun s => if s = 80 then .slice (some ⟨x.heap.size, 0, none⟩) 3 3 else u s, by simp [Act.put], { (HC.out.rolls HGV.out (by omega) (by omega) (HC.out.st.die.alloc _) (Rolls.of_below (below1 _))) with f9 := fun _ => ⟨z1, z2, x.heap.size, cells, rfl, HC.out.st.roll.size, heap_alloc_new _ _, hcells⟩ }⟩
      · intro L a' x hL hcl hc hI K' hK
        obtain ⟨u, rfl, hC⟩ := hI
        have d9 : L 9 = true := hc ⟨9, .data⟩ (by simp) rfl
        have HK := hide hK
        have HC := hide hC
        clear hK hC hc
        obtain ⟨z1, z2, B, cells, e80, h1, h2, h3⟩ := HC.out.f9 d9
        clear h2 h3
        go_simp
        exact HK.out _ _ ⟨fun s => if s = 81 then .int .i64 3 else u s, by simp [e80], { HC.out with f10 := fun _ => rfl }⟩
      · intro L a' x hL hcl hc hI K' hK
        obtain ⟨u, rfl, hC⟩ := hI
        have HK := hide hK
        have HC := hide hC
        clear hK hC hc
        go_simp
        exact HK.out _ _ ⟨fun s => if s = 82 then .int .i64 0 else u s, rfl, { HC.out with f11 := fun _ => rfl }⟩
    case hd =>
      rintro L a' x hall ⟨u, rfl, hC⟩
      obtain ⟨z1, z2, B, cells, e80, hB, hcB, hpt⟩ := hC.f9 (hall 9 (by decide))
      have e81 := hC.f10 (hall 10 (by decide))
      have e82 := hC.f11 (hall 11 (by decide))
      have HS5 := hide hC.st
      have HCB := hide hcB
      have HPT := hide hpt
      clear hC hall hcB hpt
      rw [e80, e81, e82]
      go_wp2_with fail
      go_meet
      exact ⟨rfl, rfl, z1, z2, B, cells, rfl, hB, HCB, HPT, HS5⟩
  case rest =>
    obtain ⟨rfl, rfl, z1, z2, B, cells, rfl, hB, HCB, HPT, HS5⟩ := hcut
    have HD5 := hide HS5.out.die
    have hgB : g < B := by have := HGV.out; omega
    clear HS5 hB HGV G7 G14 HD
    generalize wc = V5 at HCB HD5 ⊢
    have RTS := hide (fun (i : Nat) (hi : i < 3) => (show ∃ p q : Int, V5.rangeAt B (i * 2) [.int .i64 p, .int .i64 q] from by
      match i, hi with
      | 0, _ => exact ⟨n, d, HPT.out.range HCB.out (i := 0) rfl⟩
      | 1, _ => exact ⟨rn, rd, HPT.out.range HCB.out (i := 1) rfl⟩
      | 2, _ => exact ⟨z1, z2, HPT.out.range HCB.out (i := 2) rfl⟩))
    clear HPT HCB
    go_wp2_with fail
    go_loopw [82] (fun i wr => ∃ j : Nat, j ≤ 3 ∧ i = .int .i64 j ∧ Hid (St W a len cap g V5 wr)) (fun i _ => 3 - (intOf i).toNat)
    case atStart => exact ⟨0, by omega, rfl, hide (St.start HD5.out)⟩
    case round =>
      obtain ⟨j, hj, rfl, HS⟩ := hrel
      by_cases hlt : j < 3
      · have t0 : decide ((j : Int) < 3) = true := decide_eq_true (by omega)
        have t0' : decide (j < 3) = true := decide_eq_true (by omega)
        have hjI : (j : Int) < 3 := by omega
        obtain ⟨p, q, hrg⟩ := RTS.out j hlt
        have HRG := hide (HS.out.range hrg (by omega))
        clear hrg
        go_upto_region 8 with (first
          | (refine wpList_load_mid (by rfl) 27 (.tmp 84) (by rfl) B (j * 2) (by rfl) [.int .i64 p, .int .i64 q] _ ?_ Try.underlying27 rfl (by kernel_rfl) ?_; (focus exact HRG.out)))
        have h16 : g < wr.heap.size := HS.out.die.lt
        have G16 := hide (heap_alloc_new wr (.cells #[.int .i64 p, .int .i64 q] 27))
        have HS := hide (HS.out.alloc (.cells #[.int .i64 p, .int .i64 q] 27))
        clear HRG
        generalize wr.alloc (.cells #[.int .i64 p, .int .i64 q] 27) = V8 at G16 HS ⊢
        generalize wr.heap.size = g16 at G16 h16 ⊢
        obtain ⟨x0, x1, -, -⟩ := die_pair G16.out
        have m0 := fun p : More => cell_more x0 p
        have m1 := fun p : More => cell_more x1 p
        obtain ⟨bv, QV1, QV2⟩ := same_valid p q
        clear x0 x1 t0 t0'
        refine wp_region_grown (by kernel_rfl) (by kernel_rfl) ?_
        repeat (go_big_quiet_step ((first | (go_at_call 20; with_reducible exact more_of (QV1.out _)) | (go_at_call 21; with_reducible exact more_of (QV2.out _)))))
        refine wpQuiet_nil ?_
        intro w9 hb9
        have HS := hide (HS.out.below hb9)
        have G16 := hide (heap_keep hb9 G16.out)
        clear hb9 m0 m1 QV1 QV2
        go_wp2_with (first
          | (go_at_call 19; (with_reducible refine (made_pick (W := W) (a := a) (len := len) (cap := cap) (fun _ => true) _ _ ?_ ?_ ?_ _ ?_ ?_).mono ?_); (focus rfl); (focus decide); (focus rfl); (focus exact HS.out.die); (focus rfl); rintro e w10 ⟨⟨v, rfl, -⟩, hd1, hr1⟩))
        have HS10 := hide (HS.out.rolls hd1 hr1)
        have G16 := hide (hr1.blk G16.out (by omega))
        clear hd1 hr1 HS
        have HD10 := hide HS10.out.die
        have IB2 := hide (IntBlk.new w10 #[.int .i64 start, .int .i64 1000000000000, .int .i64 v] 3 rfl)
        have hB2 : g < w10.heap.size := HS10.out.die.lt
        have HS10 := hide (HS10.out.alloc (.cells #[.int .i64 start, .int .i64 1000000000000, .int .i64 v] 3))
        have G16 := hide (heap_on G16.out (.cells #[.int .i64 start, .int .i64 1000000000000, .int .i64 v] 3))
        generalize w10.alloc (.cells #[.int .i64 start, .int .i64 1000000000000, .int .i64 v] 3) = V11 at IB2 HS10 G16 ⊢
        generalize w10.heap.size = B2 at IB2 hB2 ⊢
        have HD11 := hide HS10.out.die
        clear HD10
        go_loopw [97] (fun i wr => ∃ j : Nat, j ≤ 3 ∧ i = .int .i64 j ∧ Hid (St W a len cap g V11 wr)) (fun i _ => 3 - (intOf i).toNat)
        case atStart => exact ⟨0, by omega, rfl, hide (St.start HD11.out)⟩
        case round =>
          obtain ⟨j2, hj2, rfl, HS2⟩ := hrel
          by_cases hlt2 : j2 < 3
          · have t0 : decide ((j2 : Int) < 3) = true := decide_eq_true (by omega)
            have t0' : decide (j2 < 3) = true := decide_eq_true (by omega)
            have hjI : (j2 : Int) < 3 := by omega
            obtain ⟨s, hs⟩ := IB2.out.cell hlt2
            have hs := HS2.out.cell hs (by omega)
            have G16a := hide (HS2.out.blk G16.out (by omega))
            go_wp2_with (first
              | (go_at_call 17; (with_reducible refine (made_next W a len cap g 100 (by omega) _ HS2.out.die).mono ?_); rintro e w12 ⟨⟨v2, rfl, -, -⟩, hd1, hr1⟩))
            have HS2 := hide (HS2.out.rolls hd1 hr1)
            have G16a := hide (hr1.blk G16a.out (by omega))
            have hB3 : g < w12.heap.size := hd1.lt
            have IB3 := hide (IntBlk.new w12 #[.int .i64 k, .int .i64 v2, .int .i64 16777216, .int .i64 16777217, .int .i64 (-1)] 3 rfl)
            have HS2 := hide (HS2.out.alloc (.cells #[.int .i64 k, .int .i64 v2, .int .i64 16777216, .int .i64 16777217, .int .i64 (-1)] 3))
            have G16a := hide (heap_on G16a.out (.cells #[.int .i64 k, .int .i64 v2, .int .i64 16777216, .int .i64 16777217, .int .i64 (-1)] 3))
            clear hd1 hr1 hs t0 t0'
            generalize w12.alloc (.cells #[.int .i64 k, .int .i64 v2, .int .i64 16777216, .int .i64 16777217, .int .i64 (-1)] 3) = V13 at IB3 HS2 G16a ⊢
            generalize w12.heap.size = B3 at IB3 hB3 ⊢
            have HD13 := hide HS2.out.die
            go_loopw [106] (fun i wr => ∃ j : Nat, j ≤ 5 ∧ i = .int .i64 j ∧ Hid (St W a len cap g V13 wr)) (fun i _ => 5 - (intOf i).toNat)
            case atStart => exact ⟨0, by omega, rfl, hide (St.start HD13.out)⟩
            case round => as_aux_lemma =>
              obtain ⟨j3, hj3, rfl, HS3⟩ := hrel
              by_cases hlt3 : j3 < 5
              · have t0 : decide ((j3 : Int) < 5) = true := decide_eq_true (by omega)
                have t0' : decide (j3 < 5) = true := decide_eq_true (by omega)
                have hjI : (j3 : Int) < 5 := by omega
                obtain ⟨t, ht⟩ := IB3.out.cell hlt3
                have ht := HS3.out.cell ht (by omega)
                have G16b := hide (HS3.out.blk G16a.out (by omega))
                obtain ⟨c0, c1, -, -⟩ := die_pair G16b.out
                obtain ⟨ra, rb, QA1, QA2⟩ := same_time s p q t
                go_wp2_with (first
                  | (go_at_call 13; (with_reducible refine (QA1.out _).mono ?_); rintro e w1 ⟨rfl, hb⟩; (have HS3 := hide (HS3.out.below hb)); (have G16b := hide (heap_keep hb G16b.out)); clear c0 c1; (obtain ⟨c0, c1, -, -⟩ := die_pair G16b.out); clear hb)
                  | (go_at_call 22; (with_reducible refine (QA2.out _).mono ?_); rintro e w1 ⟨rfl, hb⟩; (have HS3 := hide (HS3.out.below hb)); (have G16b := hide (heap_keep hb G16b.out)); clear c0 c1; (obtain ⟨c0, c1, -, -⟩ := die_pair G16b.out); clear hb))
                go_roundw
                case rel => exact ⟨j3 + 1, by omega, by go_num, HS3⟩
                case measure => simp [intOf]; omega
              · have t0 : decide ((j3 : Int) < 5) = false := decide_eq_false (by omega)
                have t0' : decide (j3 < 5) = false := decide_eq_false (by omega)
                have HS2 := hide (HS2.out.trans HS3.out)
                have G16a := hide (HS3.out.blk G16a.out (by omega))
                clear HS3 HD13 IB3
                go_wp2_with (first
                  | (go_at_call 17; (with_reducible refine (made_next W a len cap g 2000000 (by omega) _ HS2.out.die).mono ?_); rintro e w14 ⟨⟨v3, rfl, -, -⟩, hd1, hr1⟩)
                  | (refine wpList_add_any (by rfl) 3 (.tmp 135) (.tmp 137) (by rfl) _ _ (by rfl) (by rfl) ?_; intro y1)
                  | (refine wpList_sub_any (by rfl) 3 (.tmp 138) (.const (.int .i64 5)) (by rfl) _ _ (by rfl) (by rfl) ?_; intro y2)
                  | (refine wpList_buildRows (by rfl) 22 3 5 _ (by rfl) 1 [.int .i64 x, .int .i64 s, .int .i64 y2, .int .i64 18014398509481984, .int .i64 18014398509481985] Try.underlying22 (by kernel_rfl) (by kernel_rfl) rfl (by decide) (by simp [Value.cells]) ?_ ?_; (focus kernel_rfl); intro cells5 hc5))
                have HS2 := hide (HS2.out.rolls hd1 hr1)
                have G16a := hide (hr1.blk G16a.out (by omega))
                have hB4 : g < w14.heap.size := hd1.lt
                clear hd1 hr1 t0 t0'
                have IB4 := hide (hc5.ints rfl w14 3)
                clear hc5
                have HS2 := hide (HS2.out.alloc (.cells cells5 3))
                have G16a := hide (heap_on G16a.out (.cells cells5 3))
                generalize w14.alloc (.cells cells5 3) = V15 at IB4 HS2 G16a ⊢
                generalize w14.heap.size = B4 at IB4 hB4 ⊢
                have HD15 := hide HS2.out.die
                go_loopw [142] (fun i wr => ∃ j : Nat, j ≤ 5 ∧ i = .int .i64 j ∧ Hid (St W a len cap g V15 wr)) (fun i _ => 5 - (intOf i).toNat)
                case atStart => exact ⟨0, by omega, rfl, hide (St.start HD15.out)⟩
                case round => as_aux_lemma =>
                  obtain ⟨j4, hj4, rfl, HS3⟩ := hrel
                  by_cases hlt4 : j4 < 5
                  · have t0 : decide ((j4 : Int) < 5) = true := decide_eq_true (by omega)
                    have t0' : decide (j4 < 5) = true := decide_eq_true (by omega)
                    have hjI : (j4 : Int) < 5 := by omega
                    obtain ⟨t, ht⟩ := IB4.out.cell hlt4
                    have ht := HS3.out.cell ht (by omega)
                    have G16b := hide (HS3.out.blk G16a.out (by omega))
                    obtain ⟨c0, c1, -, -⟩ := die_pair G16b.out
                    obtain ⟨ra, rb, QA1, QA2⟩ := same_index s p q t
                    obtain ⟨rc, rd, QB1, QB2⟩ := same_next s p q t
                    obtain ⟨re, rf, rg, QC1, QC2⟩ := same_near s p q t
                    obtain ⟨rh, ri, QD1, QD2⟩ := same_numb p q t
                    go_wp2_with (first
                      | (go_at_call 14; (with_reducible refine (QA1.out _).mono ?_); rintro e w1 ⟨rfl, hb⟩; (have HS3 := hide (HS3.out.below hb)); (have G16b := hide (heap_keep hb G16b.out)); clear c0 c1; (obtain ⟨c0, c1, -, -⟩ := die_pair G16b.out); clear hb)
                      | (go_at_call 23; (with_reducible refine (QA2.out _).mono ?_); rintro e w1 ⟨rfl, hb⟩; (have HS3 := hide (HS3.out.below hb)); (have G16b := hide (heap_keep hb G16b.out)); clear c0 c1; (obtain ⟨c0, c1, -, -⟩ := die_pair G16b.out); clear hb)
                      | (go_at_call 15; (with_reducible refine (QB1.out _).mono ?_); rintro e w1 ⟨rfl, hb⟩; (have HS3 := hide (HS3.out.below hb)); (have G16b := hide (heap_keep hb G16b.out)); clear c0 c1; (obtain ⟨c0, c1, -, -⟩ := die_pair G16b.out); clear hb)
                      | (go_at_call 24; (with_reducible refine (QB2.out _).mono ?_); rintro e w1 ⟨rfl, hb⟩; (have HS3 := hide (HS3.out.below hb)); (have G16b := hide (heap_keep hb G16b.out)); clear c0 c1; (obtain ⟨c0, c1, -, -⟩ := die_pair G16b.out); clear hb)
                      | (go_at_call 12; (with_reducible refine (QC1.out _).mono ?_); rintro e w1 ⟨rfl, hb⟩; (have HS3 := hide (HS3.out.below hb)); (have G16b := hide (heap_keep hb G16b.out)); clear c0 c1; (obtain ⟨c0, c1, -, -⟩ := die_pair G16b.out); clear hb)
                      | (go_at_call 25; (with_reducible refine (QC2.out _).mono ?_); rintro e w1 ⟨rfl, hb⟩; (have HS3 := hide (HS3.out.below hb)); (have G16b := hide (heap_keep hb G16b.out)); clear c0 c1; (obtain ⟨c0, c1, -, -⟩ := die_pair G16b.out); clear hb)
                      | (go_at_call 16; (with_reducible refine (QD1.out _).mono ?_); rintro e w1 ⟨rfl, hb⟩; (have HS3 := hide (HS3.out.below hb)); (have G16b := hide (heap_keep hb G16b.out)); clear c0 c1; (obtain ⟨c0, c1, -, -⟩ := die_pair G16b.out); clear hb)
                      | (go_at_call 26; (with_reducible refine (QD2.out _).mono ?_); rintro e w1 ⟨rfl, hb⟩; (have HS3 := hide (HS3.out.below hb)); (have G16b := hide (heap_keep hb G16b.out)); clear c0 c1; (obtain ⟨c0, c1, -, -⟩ := die_pair G16b.out); clear hb))
                    go_roundw
                    case rel => exact ⟨j4 + 1, by omega, by go_num, HS3⟩
                    case measure => simp [intOf]; omega
                  · have t0 : decide ((j4 : Int) < 5) = false := decide_eq_false (by omega)
                    have t0' : decide (j4 < 5) = false := decide_eq_false (by omega)
                    have HS2 := hide (HS2.out.trans HS3.out)
                    clear HS3 HD15 IB4
                    go_wp2_with fail
                    go_roundw
                    case rel => exact ⟨j2 + 1, by omega, by go_num, HS2⟩
                    case measure => simp [intOf]; omega
          · have t0 : decide ((j2 : Int) < 3) = false := decide_eq_false (by omega)
            have t0' : decide (j2 < 3) = false := decide_eq_false (by omega)
            have HS := hide (HS10.out.trans HS2.out)
            have G16 := hide (HS2.out.blk G16.out (by omega))
            clear HS2 HS10 HD11 IB2
            go_upto_region 36 with fail
            clear t0 t0' hlt2 hj2
            go_wp2_with (first
              | (go_at_call 19; (with_reducible refine (made_pick (W := W) (a := a) (len := len) (cap := cap) (fun _ => true) _ _ ?_ ?_ ?_ _ ?_ ?_).mono ?_); (focus rfl); (focus decide); (focus rfl); (focus exact HS.out.die); (focus rfl); rintro e w20 ⟨⟨v5, rfl, -⟩, hd1, hr1⟩)
              | (refine wpList_buildRows (by rfl) 22 3 2 _ (by rfl) 1 [.int .i64 factor, .int .i64 v5] Try.underlying22 (by kernel_rfl) (by kernel_rfl) rfl (by decide) (by simp [Value.cells]) ?_ ?_; (focus kernel_rfl); intro cells6 hc6)
              | (refine wpList_len_any (by rfl) 22 3 Try.underlying22 (.tmp 251) (by rfl) _ _ _ (by rfl) 2 (by rfl) ?_))
            have HS := hide (HS.out.rolls hd1 hr1)
            have G16 := hide (hr1.blk G16.out (by omega))
            have hB5 : g < w20.heap.size := hd1.lt
            clear hd1 hr1
            have IB5 := hide (hc6.ints rfl w20 3)
            clear hc6
            have HS := hide (HS.out.alloc (.cells cells6 3))
            have G16 := hide (heap_on G16.out (.cells cells6 3))
            generalize w20.alloc (.cells cells6 3) = V21 at IB5 HS G16 ⊢
            generalize w20.heap.size = B5 at IB5 hB5 ⊢
            have HD21 := hide HS.out.die
            go_loopw [253] (fun i wr => ∃ j : Nat, j ≤ 2 ∧ i = .int .i64 j ∧ Hid (St W a len cap g V21 wr)) (fun i _ => 2 - (intOf i).toNat)
            case atStart => exact ⟨0, by omega, rfl, hide (St.start HD21.out)⟩
            case round => as_aux_lemma =>
              obtain ⟨j5, hj5, rfl, HS3⟩ := hrel
              by_cases hlt5 : j5 < 2
              · have t0 : decide ((j5 : Int) < 2) = true := decide_eq_true (by omega)
                have t0' : decide (j5 < 2) = true := decide_eq_true (by omega)
                have hjI : (j5 : Int) < 2 := by omega
                obtain ⟨t, ht⟩ := IB5.out.cell hlt5
                have ht := HS3.out.cell ht (by omega)
                have G16b := hide (HS3.out.blk G16.out (by omega))
                obtain ⟨c0, c1, -, -⟩ := die_pair G16b.out
                obtain ⟨sa, sb, se, QA1, QA2⟩ := same_slower p q t
                obtain ⟨y1, hy1⟩ : ∃ y : Int, IntKind.i64.wrap (t * 1000) = y := ⟨_, rfl⟩
                have HY := hide hy1
                clear hy1
                go_upto_region 40 with (go_at_call 18; (with_reducible refine (QA1.out _).mono ?_); rintro e w1 ⟨rfl, hb⟩)
                have HS3 := hide ((HS3.out.below hb).alloc (.cells #[.int .i64 sa, .int .i64 sb] 27))
                have G16b := hide (heap_on (heap_keep hb G16b.out) (.cells #[.int .i64 sa, .int .i64 sb] 27))
                have G47 := hide (heap_alloc_new w1 (.cells #[.int .i64 sa, .int .i64 sb] 27))
                clear hb c0 c1 ht t0 t0'
                generalize w1.alloc (.cells #[.int .i64 sa, .int .i64 sb] 27) = V40 at HS3 G16b G47 ⊢
                generalize w1.heap.size = g47 at G47 ⊢
                obtain ⟨c0, c1, -, -⟩ := die_pair G16b.out
                go_upto_region 41 with (go_at_call 27; (with_reducible refine (QA2.out _).mono ?_); rintro e w1 ⟨rfl, hb⟩)
                have HS3 := hide ((HS3.out.below hb).alloc (.cells #[.int .i64 sa, .int .i64 sb] 27))
                have G16b := hide (heap_on (heap_keep hb G16b.out) (.cells #[.int .i64 sa, .int .i64 sb] 27))
                have G47 := hide (heap_on (heap_keep hb G47.out) (.cells #[.int .i64 sa, .int .i64 sb] 27))
                have G49 := hide (heap_alloc_new w1 (.cells #[.int .i64 sa, .int .i64 sb] 27))
                clear hb c0 c1
                generalize w1.alloc (.cells #[.int .i64 sa, .int .i64 sb] 27) = V41 at HS3 G16b G47 G49 ⊢
                generalize w1.heap.size = g49 at G49 ⊢
                obtain ⟨c0, c1, -, -⟩ := die_pair G16b.out
                obtain ⟨e0, e1, -, -⟩ := die_pair G47.out
                obtain ⟨f0, f1, -, -⟩ := die_pair G49.out
                go_wp2_with (first
                  | (go_at_call 28; (with_reducible refine (rate_smp p q _ _).mono ?_); rintro e w1 ⟨rfl, hb⟩; (have HS3 := hide (HS3.out.below hb)); (have G16b := hide (heap_keep hb G16b.out)); (have G47 := hide (heap_keep hb G47.out)); (have G49 := hide (heap_keep hb G49.out)); clear c0 c1 e0 e1 f0 f1; (obtain ⟨c0, c1, -, -⟩ := die_pair G16b.out); (obtain ⟨e0, e1, -, -⟩ := die_pair G47.out); (obtain ⟨f0, f1, -, -⟩ := die_pair G49.out); clear hb)
                  | (go_at_call 29; (with_reducible refine (ref_smp p q _ _).mono ?_); rintro e w1 ⟨rfl, hb⟩; (have HS3 := hide (HS3.out.below hb)); (have G16b := hide (heap_keep hb G16b.out)); (have G47 := hide (heap_keep hb G47.out)); (have G49 := hide (heap_keep hb G49.out)); clear c0 c1 e0 e1 f0 f1; (obtain ⟨c0, c1, -, -⟩ := die_pair G16b.out); (obtain ⟨e0, e1, -, -⟩ := die_pair G47.out); (obtain ⟨f0, f1, -, -⟩ := die_pair G49.out); clear hb)
                  | (refine wpList_mul_any (by rfl) 3 (.tmp 271) (.const (.int .i64 1000)) (by rfl) _ _ (by rfl) (by rfl) ?_; intro z hz; (obtain rfl : y1 = z := (hz.trans HY.out).symm); clear hz)
                  | (refine wpList_mul_any (by rfl) 3 (.tmp 278) (.const (.int .i64 1000)) (by rfl) _ _ (by rfl) (by rfl) ?_; intro z hz; (obtain rfl : y1 = z := (hz.trans HY.out).symm); clear hz))
                go_roundw
                case rel => exact ⟨j5 + 1, by omega, by go_num, HS3⟩
                case measure => simp [intOf]; omega
              · have t0 : decide ((j5 : Int) < 2) = false := decide_eq_false (by omega)
                have t0' : decide (j5 < 2) = false := decide_eq_false (by omega)
                have HS := hide (HS.out.trans HS3.out)
                clear HS3 HD21 IB5
                go_wp2_with fail
                go_roundw
                case rel => exact ⟨j + 1, by omega, by go_num, HS⟩
                case measure => simp [intOf]; omega
      · have t0 : decide ((j : Int) < 3) = false := decide_eq_false (by omega)
        have t0' : decide (j < 3) = false := decide_eq_false (by omega)
        have HL := hide (show Below W0.heap.size W0 wr from HBW.out.trans (HS.out.die.low.mono HBW.out.size))
        clear HS HD5 RTS
        obtain ⟨na, nb, ne, QA1, QA2⟩ := same_new k x
        go_upto_region 50 with (go_at_call 30; (with_reducible refine (QA1.out _).mono ?_); rintro e w1 ⟨rfl, hb⟩)
        have HL := hide (HL.out.trans ((hb.alloc hb.size (.cells #[.int .i64 na, .int .i64 nb] 27)).mono HL.out.size))
        have G47 := hide (heap_alloc_new w1 (.cells #[.int .i64 na, .int .i64 nb] 27))
        clear hb
        generalize w1.alloc (.cells #[.int .i64 na, .int .i64 nb] 27) = V50 at HL G47 ⊢
        generalize w1.heap.size = g47 at G47 ⊢
        go_upto_region 51 with (go_at_call 31; (with_reducible refine (QA2.out _).mono ?_); rintro e w1 ⟨rfl, hb⟩)
        have HL := hide (HL.out.trans ((hb.alloc hb.size (.cells #[.int .i64 na, .int .i64 nb] 27)).mono HL.out.size))
        have G47 := hide (heap_on (heap_keep hb G47.out) (.cells #[.int .i64 na, .int .i64 nb] 27))
        have G49 := hide (heap_alloc_new w1 (.cells #[.int .i64 na, .int .i64 nb] 27))
        clear hb
        generalize w1.alloc (.cells #[.int .i64 na, .int .i64 nb] 27) = V51 at HL G47 G49 ⊢
        generalize w1.heap.size = g49 at G49 ⊢
        obtain ⟨e0, e1, -, -⟩ := die_pair G47.out
        obtain ⟨f0, f1, -, -⟩ := die_pair G49.out
        go_wp2_with (go_at_call 9; (with_reducible refine (QS.out _).mono ?_); rintro e w2 ⟨rfl, hb⟩)
        go_ret
        exact ⟨rfl, HL.out.trans (hb.mono HL.out.size)⟩
end Go.Proofs.Ytmhbncpiloffgaa
