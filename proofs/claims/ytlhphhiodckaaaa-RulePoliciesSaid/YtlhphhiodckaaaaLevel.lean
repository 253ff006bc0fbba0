/- Level of package rule. (written by gen_level.py) -/
import Derived.RangeFuncNested
import Derived.Test.YtlhphhiodckaaaaBack
import Derived.Test.YtlhphhiodckaaaaRule
import Derived.Test.YtlhphhiodckaaaaRuleVal
namespace Go.Proofs.Ytlhphhiodckaaaa
open Go.RowKit Go.Shelf
attribute [local go_sem] Oper.semAt_some
set_option linter.unusedVariables false
set_option linter.unusedSimpArgs false
/-- The greatest k up to the given one whose rule, number k - 1, is met; 0 where none is. -/
def levN (L : List Rl) (e : Ev) : Nat → Nat
  | 0 => 0
  | k + 1 => if meetsB (L[k]?.getD rl0) e = true then k + 1 else levN L e k
def levF (L : List Rl) (di ev : Int) (e : Ev) : Nat := if vE L di ev = 0 then levN L e L.length else 0
theorem levN_le (L : List Rl) (e : Ev) : ∀ k, levN L e k ≤ k
  | 0 => Nat.le_refl _
  | k + 1 => by
    unfold levN
    split
    · exact Nat.le_refl _
    · have := levN_le L e k; omega
/-- None of the first k rounds has met: the level lies below. -/
theorem levN_back (L : List Rl) (e : Ev) : ∀ k, k ≤ L.length → (∀ q ∈ upto (backF L) k, meetsB q.2 e = false) → levN L e L.length = levN L e (L.length - k)
  | 0, _, _ => rfl
  | k + 1, hk, h => by
    rw [levN_back L e k (by omega) (fun q hq => h q (by rw [upto_succ]; exact List.mem_append_left _ hq))]
    obtain ⟨m, hm⟩ : ∃ m, L.length - k = m + 1 := ⟨L.length - k - 1, by omega⟩
    have hx := h (backF L k) (by rw [upto_succ]; simp)
    unfold backF at hx
    rw [hm, show L.length - (k + 1) = m by omega]
    rw [show L.length - 1 - k = m by omega] at hx
    show (if meetsB (L[m]?.getD rl0) e = true then m + 1 else levN L e m) = levN L e m
    rw [if_neg (by rw [show meetsB (L[m]?.getD rl0) e = false from hx]; simp)]
theorem cells_own {β : Type} (b : Nat) (cs : Array Value) (t : TypeId) (fr : Nat × Nat) : Go.Own (fun (_ : β) W => W.heap[b]? = some (.cells cs t fr)) := fun s X Y row hs hg hrow =>
  (hg.block b (Array.getElem?_eq_some_iff.1 hs).1 (fun e' => by obtain ⟨o, ho, hc⟩ := hrow b e'.symm; rw [show X.heap[b]? = _ from hs] at ho; cases ho; cases hc)).trans hs
/-- A whole block is read, inside a fence. -/
theorem wpListIn_load_row {F : Fence} {n : Nat} {P : Program} {w : World} {ops : Array Oper} {rest : List Oper} {o : Oper} {a : Act} {Q : Exit → Act → World → Prop} (hgd : o.guard = none) (ty : TypeId) (x : Operand) (hop : o.op = .load ty x)
    (g : Nat) (hx : a.eval x = .pointer (some ⟨g, 0, none⟩)) (t : TypeId) (cs : Array Value) (fr : Nat × Nat) (d : TypeDesc) (hg : w.heap[g]? = some (.cells cs t fr))
    (hu : P.underlying ty = some d) (hd : (match d with | .struct _ | .array _ _ => true | _ => false) = true) (hi : (P.info? ty).map (·.size) = some cs.size)
    (h : wpListIn F n P ops Q rest (a.put o.dst (.agg cs)) w) : wpListIn F n P ops Q (o :: rest) a w := by
  refine wpListIn_plain hgd fun K hK' => ?_
  have hrun : (execOp a.eval o).run P w = .ok (.value (.agg cs)) w := by
    unfold execOp
    simp only [hop, hx, Instr.loadAt, Instr.sureAddr, Sem.run_bind, Sem.run_pure, Result.andThen_ok, run_loadVar_row w g t ty cs fr d hg hu hd hi]
  unfold Oper.wpIn
  refine ⟨?_, ?_⟩
  · simp [Oper.about, hop]
  · rw [Oper.semAt_plain F _ _ (by rw [hop]; intro c hc'; cases hc'), hrun]
    exact hK' _ _ h
set_option maxHeartbeats 8000000 in
set_option maxRecDepth 100000 in
theorem rule_level (L : List Rl) (di ev : Int) (p : Option Addr) (n c : Nat) (hn : n ≤ 1000000) (e : Ev) (w : World) (hr : RlRow w p n L) :
    Calls Try.prog 15 #[.agg #[.slice p n c, .int .i64 di, .int .i64 ev], .agg #[.string e.a1, .string e.a2, .string e.a3, .string e.a4, .int .i64 e.t1, .int .i64 e.t2, .int .i64 e.t3, .int .i64 e.am, .int .i64 e.po, .slice e.p e.n e.c, .int .i64 e.x, .int .i64 e.y, .int .i64 e.z, .int .i64 e.tm, .int .i64 e.mf, .int .i64 e.lw, .int .i64 e.b1, .int .i64 e.b2, .int .i64 e.b3, .int .i64 e.b4, .int .i64 e.b5, .int .i64 e.b6, .int .i64 e.lo, .int .i64 e.hi, .int .i64 e.ct]] w fun en w' => en = .returned (.int .i64 (levF L di ev e : Nat)) ∧ Below w.heap.size w w' := by
  have HB := hide (below3a (w := w) (.cells #[.slice p n c, .int .i64 di, .int .i64 ev] 24) (.cells #[.string e.a1, .string e.a2, .string e.a3, .string e.a4, .int .i64 e.t1, .int .i64 e.t2, .int .i64 e.t3, .int .i64 e.am, .int .i64 e.po, .slice e.p e.n e.c, .int .i64 e.x, .int .i64 e.y, .int .i64 e.z, .int .i64 e.tm, .int .i64 e.mf, .int .i64 e.lw, .int .i64 e.b1, .int .i64 e.b2, .int .i64 e.b3, .int .i64 e.b4, .int .i64 e.b5, .int .i64 e.b6, .int .i64 e.lo, .int .i64 e.hi, .int .i64 e.ct] 43) (.cells #[.int .i64 0] 3))
  have G2 := hide (pair_alloc (pair_alloc (heap_alloc_new w (.cells #[.slice p n c, .int .i64 di, .int .i64 ev] 24)) (.cells #[.string e.a1, .string e.a2, .string e.a3, .string e.a4, .int .i64 e.t1, .int .i64 e.t2, .int .i64 e.t3, .int .i64 e.am, .int .i64 e.po, .slice e.p e.n e.c, .int .i64 e.x, .int .i64 e.y, .int .i64 e.z, .int .i64 e.tm, .int .i64 e.mf, .int .i64 e.lw, .int .i64 e.b1, .int .i64 e.b2, .int .i64 e.b3, .int .i64 e.b4, .int .i64 e.b5, .int .i64 e.b6, .int .i64 e.lo, .int .i64 e.hi, .int .i64 e.ct] 43)) (.cells #[.int .i64 0] 3))
  have G3 := hide (pair_alloc (new_at (w := w.alloc (.cells #[.slice p n c, .int .i64 di, .int .i64 ev] 24)) (.cells #[.string e.a1, .string e.a2, .string e.a3, .string e.a4, .int .i64 e.t1, .int .i64 e.t2, .int .i64 e.t3, .int .i64 e.am, .int .i64 e.po, .slice e.p e.n e.c, .int .i64 e.x, .int .i64 e.y, .int .i64 e.z, .int .i64 e.tm, .int .i64 e.mf, .int .i64 e.lw, .int .i64 e.b1, .int .i64 e.b2, .int .i64 e.b3, .int .i64 e.b4, .int .i64 e.b5, .int .i64 e.b6, .int .i64 e.lo, .int .i64 e.hi, .int .i64 e.ct] 43) (g := w.heap.size + 1) (by simp)) (.cells #[.int .i64 0] 3))
  have G4 := hide (new_at (w := (w.alloc (.cells #[.slice p n c, .int .i64 di, .int .i64 ev] 24)).alloc (.cells #[.string e.a1, .string e.a2, .string e.a3, .string e.a4, .int .i64 e.t1, .int .i64 e.t2, .int .i64 e.t3, .int .i64 e.am, .int .i64 e.po, .slice e.p e.n e.c, .int .i64 e.x, .int .i64 e.y, .int .i64 e.z, .int .i64 e.tm, .int .i64 e.mf, .int .i64 e.lw, .int .i64 e.b1, .int .i64 e.b2, .int .i64 e.b3, .int .i64 e.b4, .int .i64 e.b5, .int .i64 e.b6, .int .i64 e.lo, .int .i64 e.hi, .int .i64 e.ct] 43)) (.cells #[.int .i64 0] 3) (g := w.heap.size + 1 + 1) (by simp))
  have HSZ := hide (show (((w.alloc (.cells #[.slice p n c, .int .i64 di, .int .i64 ev] 24)).alloc (.cells #[.string e.a1, .string e.a2, .string e.a3, .string e.a4, .int .i64 e.t1, .int .i64 e.t2, .int .i64 e.t3, .int .i64 e.am, .int .i64 e.po, .slice e.p e.n e.c, .int .i64 e.x, .int .i64 e.y, .int .i64 e.z, .int .i64 e.tm, .int .i64 e.mf, .int .i64 e.lw, .int .i64 e.b1, .int .i64 e.b2, .int .i64 e.b3, .int .i64 e.b4, .int .i64 e.b5, .int .i64 e.b6, .int .i64 e.lo, .int .i64 e.hi, .int .i64 e.ct] 43)).alloc (.cells #[.int .i64 0] 3)).heap.size = w.heap.size + 1 + 1 + 1 from by simp)
  have HR := hide (hr.keep (HB.out))
  have HLW := hide (fun b off (hp : p = some ⟨b, off, none⟩) => (show n = 0 ∨ b < w.heap.size from by
    obtain ⟨hl, h0 | ⟨b', off', hp', hc⟩⟩ := hr
    · exact .inl h0
    · by_cases hz : n = 0
      · exact .inl hz
      · rw [hp] at hp'
        injection hp' with hp'
        injection hp' with e1 e2
        subst e1
        have := block_lt_of_cell (hc 0 (by omega)).1
        exact .inr this))
  have QV := hide (fun (V : World) (hV : RlRow V p n L) => rule_validate L di ev p n c V hV)
  clear hr
  by_cases hv : vE L di ev = 0
  · have hlf : levF L di ev e = levN L e L.length := by unfold levF; rw [if_pos hv]
    have HLF := hide hlf
    rw [hv] at QV
    clear hv hlf
    refine (callsIn_wide (n := 4)).1 ?_
    refine callsIn_of_wp_marks Try.func15 rfl trivial ?_ rfl
    simp only [Try.ntmps15, List.size_toArray, List.length_cons, List.length_nil, Nat.reduceAdd, Nat.reduceSub, Array.replicate_succ, Array.replicate_zero, List.push_toArray, List.append_toArray, List.nil_append, List.cons_append]
    gi_wp2_with (first
      | (refine ⟨trivial, ?_⟩; gi_at_call 13; refine (callsIn_wide.2 (QV.out _ HR.out)).mono ?_; rintro en w1 ⟨rfl, hb⟩; (have hsz := hb.size); (rw [HSZ.out] at hsz); (have G2 := hide ((hb.block _ (Array.getElem?_eq_some_iff.1 G2.out).1).trans G2.out)); (have G3 := hide ((hb.block _ (Array.getElem?_eq_some_iff.1 G3.out).1).trans G3.out)); (have G4 := hide ((hb.block _ (Array.getElem?_eq_some_iff.1 G4.out).1).trans G4.out)); (have HR := hide (HR.out.keep hb)); (have HB := hide (HB.out.trans (hb.mono HB.out.size))); (obtain ⟨c0, c1, c2, -, -, -⟩ := tri_cells G2.out); clear hb)
      | (refine ⟨trivial, ?_⟩; gi_at_call 31; refine (back_in Fence.wide _ trivial rfl _ _ _ _).mono ?_; rintro en w2 ⟨rfl, rfl⟩))
    have bN := Boxed.new w1 22 (.slice p n c)
    have E0 := pair_alloc G3.out (.cells #[.slice p n c] 22)
    have R0 : Boxed (w1.alloc (.cells #[.slice p n c] 22)) (w.heap.size + 1 + 1) 3 (.int .i64 0) := pair_alloc G4.out (.cells #[.slice p n c] 22)
    have hB0 : Below w.heap.size w (w1.alloc (.cells #[.slice p n c] 22)) := HB.out.alloc HB.out.size _
    have HR0 := HR.out.keep (below1 (.cells #[.slice p n c] 22))
    have hsz0 : (w1.alloc (.cells #[.slice p n c] 22)).heap.size = w1.heap.size + 1 := by simp
    obtain ⟨W0, hW0⟩ : ∃ W0, w1.alloc (.cells #[.slice p n c] 22) = W0 := ⟨_, rfl⟩
    rw [hW0] at bN E0 R0 hB0 HR0 hsz0 ⊢
    clear hW0
    refine wpIn_rangeFunc_ownH rfl (by omega) (gf := 38) (lb := #[.pointer (some ⟨w1.heap.size, 0, none⟩)]) rfl trivial (enters_of Try.func38 (by kernel_rfl) rfl)
      (back_stops Fence.wide 3 trivial rfl (by omega) w1.heap.size (w1.heap.size + 1) p n c L hn W0 (by omega) (by omega) bN.cell HR0 (fun b off hp => (HLW.out b off hp).imp id (fun h => by omega))) belowK_t (belowK_b (by omega)) (Below.refl _ _) (fun _ => rfl)
      (fun pre W => ((∀ q ∈ pre, meetsB q.2 e = false) ∧ (W.heap[w.heap.size + 1]? = some (.cells #[.string e.a1, .string e.a2, .string e.a3, .string e.a4, .int .i64 e.t1, .int .i64 e.t2, .int .i64 e.t3, .int .i64 e.am, .int .i64 e.po, .slice e.p e.n e.c, .int .i64 e.x, .int .i64 e.y, .int .i64 e.z, .int .i64 e.tm, .int .i64 e.mf, .int .i64 e.lw, .int .i64 e.b1, .int .i64 e.b2, .int .i64 e.b3, .int .i64 e.b4, .int .i64 e.b5, .int .i64 e.b6, .int .i64 e.lo, .int .i64 e.hi, .int .i64 e.ct] 43 (0, 0)) ∧ Boxed W (w.heap.size + 1 + 1) 3 (.int .i64 0))) ∧ (Below w.heap.size w W ∧ w1.heap.size + 1 ≤ W.heap.size))
      (fun c pre W => (c = .ret ∧ ∃ ini last, pre = ini ++ [last] ∧ (∀ q ∈ ini, meetsB q.2 e = false) ∧ meetsB last.2 e = true ∧ Boxed W (w.heap.size + 1 + 1) 3 (.int .i64 (wrap64 ((last.1 : Int) + 1)))) ∧ Below w.heap.size w W)
      (OwnFrom.and (OwnFrom.and (ownFrom_pure _ (fun (pre : List (Nat × Rl)) => ∀ q ∈ pre, meetsB q.2 e = false)) (OwnFrom.and (Go.Own.from (cells_own _ _ _ _) _) (Go.Own.from (boxed_own _ _ (fun _ => Value.int .i64 0)) _))) (OwnFrom.and (ownFrom_below (Nat.le_refl _) (by omega)) (fun _ _ _ _ hs hg _ => Nat.le_trans hs hg.size)))
      (fun cc => OwnFrom.and (Go.Own.from (fun s A B row hs hg hr => by obtain ⟨hc, ini, last, e1, e2, e3, e4⟩ := hs; exact ⟨hc, ini, last, e1, e2, e3, boxed_own (w.heap.size + 1 + 1) 3 (fun (_ : Unit) => Value.int .i64 (wrap64 ((last.1 : Int) + 1))) () A B row e4 hg hr⟩) _) (ownFrom_below (Nat.le_refl _) (by omega)))
      ⟨⟨by simp, E0, R0⟩, hB0, by omega⟩
      (fun x a' W => ∃ Bx, w.heap.size + 1 + 1 < Bx ∧ W.heap[Bx]? = some (.cells #[.int .i64 x.2.m, .int .i64 x.2.p, .int .i64 x.2.f, .int .i64 x.2.d] 26 (0, 0)) ∧ a' = { tmps := #[.agg #[.slice p n c, .int .i64 di, .int .i64 ev], .agg #[.string e.a1, .string e.a2, .string e.a3, .string e.a4, .int .i64 e.t1, .int .i64 e.t2, .int .i64 e.t3, .int .i64 e.am, .int .i64 e.po, .slice e.p e.n e.c, .int .i64 e.x, .int .i64 e.y, .int .i64 e.z, .int .i64 e.tm, .int .i64 e.mf, .int .i64 e.lw, .int .i64 e.b1, .int .i64 e.b2, .int .i64 e.b3, .int .i64 e.b4, .int .i64 e.b5, .int .i64 e.b6, .int .i64 e.lo, .int .i64 e.hi, .int .i64 e.ct], .pointer (some ⟨w.heap.size, 0, none⟩), .pointer (some ⟨w.heap.size + 1, 0, none⟩), .pointer (some ⟨w.heap.size + 1 + 1, 0, none⟩), .int .i64 (x.1 : Int), .pointer (some ⟨Bx, 0, none⟩), .agg #[.slice p n c, .int .i64 di, .int .i64 ev], .int .i64 0, .bool false, .pointer (some ⟨w.heap.size, 0, none⟩), .slice p n c, .func (.func 38) #[] #[.pointer (some ⟨w1.heap.size, 0, none⟩)], .int .i64 (x.1 : Int), .agg #[.int .i64 x.2.m, .int .i64 x.2.p, .int .i64 x.2.f, .int .i64 x.2.d], undef, undef, undef, undef, undef], defers := [] })
      (fun x a' _ X Y row hs hg hr => by obtain ⟨Bx, h1, h2, h3⟩ := hs; exact ⟨Bx, h1, cells_own (β := Unit) Bx _ _ _ () X Y row h2 hg (fun r e => (hr r e).2), h3⟩)
      ?assign ?body ?done ?stop
    case assign => as_aux_lemma =>
      rintro l pre x W K ⟨⟨hp, hE, h4⟩, hB1, hs1⟩ hK
      unfold encB
      gi_wp2
      exact hK _ _ ((KeepsOthers.alloc _ _).from _) ((Below.refl _ W).alloc hs1 _) ⟨⟨hp, pair_alloc hE _, h4.alloc _⟩, hB1.alloc hB1.size _, by simp; omega⟩ ⟨W.heap.size, h4.lt, heap_alloc_new _ _, rfl⟩
    case body => as_aux_lemma =>
      rintro l pre x a' W hl ⟨r, hr⟩ ⟨⟨hp, hE, h4⟩, hB1, hs1⟩ ⟨Bx, hBx, bX, rfl⟩ hlt
      obtain ⟨y0, y1, y2, y3⟩ := one_cells bX
      have HE := hide hE
      have HP := hide hp
      have H4 := hide h4
      have HB1 := hide hB1
      clear bX hE hp h4 hB1 hr
      have Q := hide (fun V => rule_meets x.2 e V)
      obtain ⟨bm, hbm⟩ : ∃ bm, meetsB x.2 e = bm := ⟨_, rfl⟩
      rw [hbm] at Q
      have HM := hide hbm
      clear hbm
      gi_wp2_with (first
        | (refine wpListIn_load_row rfl 43 _ rfl (w.heap.size + 1) rfl 43 _ (0, 0) _ HE.out Try.underlying43 rfl (by kernel_rfl) ?_)
        | (refine ⟨trivial, ?_⟩; gi_at_call 17; refine (CallsIn.inRound l (callsIn_wide.2 (Q.out _))).mono ?_; rintro en w3 ⟨rfl, hb⟩; (have h4' : Boxed w3 (w.heap.size + 1 + 1) 3 (.int .i64 0) := (hb.block _ H4.out.lt).trans H4.out); (have c4 := h4'.cell); (have f4 := h4'.frozen); (have H4' := hide h4'); clear h4'))
      · rename_i hx
        have hbm : bm = true := by first | exact hx | simpa using hx
        exact ⟨KeepsFrom.trans ⟨hb.size, fun k o hk h0 ho => (hb.block k (Array.getElem?_eq_some_iff.1 h0).1).trans h0⟩ ((KeepsOthers.setCell _ _ _).from _), ⟨rfl, pre, x, rfl, HP.out, HM.out.trans hbm, H4'.out.set _⟩, (HB1.out.trans (hb.mono HB1.out.size)).setCell (p := ⟨w.heap.size + 1 + 1, 0, none⟩) (by show w.heap.size ≤ w.heap.size + 1 + 1; omega) _⟩
      · rename_i hx
        have hbm : bm = false := by first | exact hx | simpa using hx
        exact ⟨⟨hb.size, fun k o hk h0 ho => (hb.block k (Array.getElem?_eq_some_iff.1 h0).1).trans h0⟩, hb.mono hs1, ⟨⟨fun q hq => by rcases List.mem_append.1 hq with h | h; exact HP.out q h; simp at h; subst h; exact HM.out.trans hbm, (hb.block _ (Array.getElem?_eq_some_iff.1 HE.out).1).trans HE.out, (hb.block _ H4.out.lt).trans H4.out⟩, HB1.out.trans (hb.mono HB1.out.size), Nat.le_trans hs1 hb.size⟩⟩
    case done => as_aux_lemma =>
      rintro D ys W hD rfl ⟨⟨hp, hE, h4⟩, hB1, hs1⟩ hK
      have c4 := h4.cell
      have f4 := h4.frozen
      gi_wp2
      have hK' := (KeepsOthers.setCell W ⟨w.heap.size + 1 + 1, 0, none⟩ (.int .i64 0)).same D _ hK rfl
      refine ⟨by simp, .inl ⟨_, _, rfl, run_takeDeferred hK', ?_⟩⟩
      have hc5 := cell_kept (World.cell?_setCell_same' W ⟨w.heap.size + 1 + 1, 0, none⟩ (.int .i64 0) (by rw [c4]; rfl)) (grownBy_putObj' _ D (.deferred none)) (fun r e => by cases e; exact ⟨_, hK', rfl⟩)
      refine ⟨.int .i64 0, ?_, ?_, (hB1.setCell (p := ⟨w.heap.size + 1 + 1, 0, none⟩) (by show w.heap.size ≤ w.heap.size + 1 + 1; omega) _).trans (belowK_b (w := w) (Nat.le_refl _) _ D _ _ (by omega) hK' rfl rfl)⟩
      · simp [results, Try.f15, go_sem, hc5]
      · rw [HLF.out, levN_back L e L.length (Nat.le_refl _) hp, Nat.sub_self]; rfl
    case stop => as_aux_lemma =>
      rintro D cc pre W hD ⟨k, hk, rfl⟩ ⟨⟨rfl, ini, last, e1, e2, e3, h4⟩, hB1⟩ hK
      have c4 := h4.cell
      gi_wp2
      refine ⟨by simp, .inl ⟨_, _, rfl, run_takeDeferred hK, ?_⟩⟩
      have hc5 := cell_kept c4 (grownBy_putObj' _ D (.deferred none)) (fun r e => by cases e; exact ⟨_, hK, rfl⟩)
      obtain ⟨k', rfl⟩ : ∃ k', k = k' + 1 := by
        cases k with
        | zero => simp [upto] at e1
        | succ k' => exact ⟨k', rfl⟩
      rw [upto_succ] at e1
      obtain ⟨rfl, e5⟩ := List.append_inj' e1 rfl
      obtain rfl : backF L k' = last := by simpa using e5
      have hlv : levF L di ev e = (backF L k').1 + 1 := by
        rw [HLF.out, levN_back L e k' (by omega) e2]
        unfold backF at e3 ⊢
        obtain ⟨m, hm⟩ : ∃ m, L.length - k' = m + 1 := ⟨L.length - k' - 1, by omega⟩
        rw [hm]
        rw [show L.length - 1 - k' = m by omega] at e3 ⊢
        show (if meetsB (L[m]?.getD rl0) e = true then m + 1 else levN L e m) = m + 1
        rw [if_pos e3]
      have hb6 : (backF L k').1 ≤ 1000000 := by unfold backF; have := HR.out.1; show L.length - 1 - k' ≤ _; omega
      have hw : wrap64 (((backF L k').1 : Int) + 1) = ((levF L di ev e : Nat) : Int) := by rw [hlv, IntWalk.wrap64_in _ (by omega)]; omega
      rw [hw] at hc5
      refine ⟨.int .i64 ((levF L di ev e : Nat) : Int), ?_, rfl, hB1.trans (belowK_b (w := w) (Nat.le_refl _) W D _ _ (by omega) hK rfl rfl)⟩
      simp [results, Try.f15, go_sem, hc5]
  · have hv27 : vE L di ev = 27 := by unfold vE at hv ⊢; split at hv <;> simp_all
    have hl : levF L di ev e = 0 := by unfold levF; rw [if_neg hv]
    rw [hv27] at QV
    have HLF := hide hl
    clear hv hv27 hl
    go_enter Try.func15, Try.ntmps15
    go_wp2_with (first
      | (go_at_call 13; (with_reducible refine (QV.out _ HR.out).mono ?_); rintro en w1 ⟨rfl, hb⟩; (have hsz := hb.size); (rw [HSZ.out] at hsz); (have G4 := hide ((hb.block _ (Array.getElem?_eq_some_iff.1 G4.out).1).trans G4.out)); (have HB := hide (HB.out.trans (hb.mono HB.out.size))); (have r0 : w1.cell? ⟨w.heap.size + 1 + 1, 0, none⟩ = some (.int .i64 0) := boxed_at G4.out rfl); (have rf0 := frozen_of_row _ _ 0 _ _ G4.out); clear hb))
    have z0 : (w1.setCell ⟨w.heap.size + 1 + 1, 0, none⟩ (.int .i64 0)).cell? ⟨w.heap.size + 1 + 1, 0, none⟩ = some (.int .i64 0) := World.cell?_setCell_same' _ _ _ (by rw [r0]; rfl)
    (try simp only [Exit.inBlock, Exit.then])
    refine bodyPost_ret (v := .int .i64 0) (by simp [results, Try.results15, go_sem, z0]) rfl ⟨by rw [HLF.out]; rfl, HB.out.setCell (by show w.heap.size ≤ w.heap.size + 1 + 1; omega) _⟩

end Go.Proofs.Ytlhphhiodckaaaa
