/- Natural numbers: Int, a range over a function, walked. -/
import Derived.RangeFuncNested
import Derived.Test.YtlpebecbipjoaaaGreatDoorNaInA
namespace Go.Proofs.YtlpebecbipjoaaaGreatDoor
open Go.RowKit Go.Shelf
attribute [local go_sem] Oper.semAt_some
set_option linter.unusedVariables false
set_option linter.unusedSimpArgs false
/-- What the first rounds, from the end on, have given. -/
def bkV (pre : List (Nat × Int)) : Int := pre.foldl (fun a x => bits BinOp.or IntKind.i64 (wrap64 (a * 1073741824)) x.2) 0
theorem bkV_snoc (pre : List (Nat × Int)) (x : Nat × Int) : bkV (pre ++ [x]) = bits BinOp.or IntKind.i64 (wrap64 (bkV pre * 1073741824)) x.2 := by simp [bkV]
theorem vv_drop_le (L : List Int) (k : Nat) : vv (L.drop k) ≤ vv L := by
  by_cases h : k ≤ L.length
  · have := vv_split L k h
    have h1 : 1 * vv (L.drop k) ≤ Bs ^ k * vv (L.drop k) := Nat.mul_le_mul_right _ (Nat.pow_pos (by decide))
    omega
  · rw [List.drop_of_length_le (by omega)]
    show 0 ≤ _
    omega
theorem or30b {a b : Int} (ha : 0 ≤ a) (hb : 0 ≤ b ∧ b < 1073741824) (hs : a * 1073741824 + b ≤ 9223372036854775807) : bOr .i64 (a * 1073741824) b = a * 1073741824 + b := by
  have e : (1073741824 : Int) = 2 ^ 30 := by decide
  rw [e] at hb hs ⊢
  exact bOr_ok (w := 30) (by omega) ha hb hs
theorem bits_or (a b : Int) : bits BinOp.or IntKind.i64 a b = bOr .i64 a b := rfl
theorem bkV_back {L : List Int} (hd : Dg L) (hb : vv L ≤ 4611686018427387904) : ∀ k, k ≤ L.length → bkV (upto (backF L) k) = (vv (L.drop (L.length - k)) : Int)
  | 0, _ => by
    rw [Nat.sub_zero, List.drop_length]; rfl
  | k + 1, hk => by
    have hm : L.length - (k + 1) < L.length := by omega
    have r := hd.get _ hm
    have hle := vv_drop_le L (L.length - (k + 1))
    rw [upto_succ, bkV_snoc, bkV_back hd hb k (by omega)]
    rw [vv_drop L (L.length - (k + 1)) hm, show L.length - (k + 1) + 1 = L.length - k by omega] at hle ⊢
    have e : (backF L k).2 = L[L.length - (k + 1)] := by
      unfold backF
      rw [show L.length - 1 - k = L.length - (k + 1) by omega, List.getElem?_eq_getElem hm]; rfl
    rw [e]
    generalize L[L.length - (k + 1)] = x at *
    generalize vv (L.drop (L.length - k)) = v at *
    rw [IntWalk.wrap64_in _ (by omega)]
    rw [bits_or, or30b (by omega) r (by omega)]
    omega
open Classical in
/-- The int of a number. -/
noncomputable def intV (L : List Int) : Int × Int := if VN L then (if vv L > 4611686018427387904 then (0, 2) else ((vv L : Int), 0)) else (0, 1)
set_option maxHeartbeats 8000000 in
set_option maxRecDepth 100000 in
theorem int_bad (L : List Int) (p : Option Addr) (n c : Nat) (hn : n ≤ 590) (hs : Shp p n c) (w : World) (hgl : GlOk (memOf w) w [] (InT sig0 [])) (hr : ILRow w p n L) (hv : ¬ VN L) :
    Calls Tryz.prog 21 #[.slice p n c] w fun en w' => en = .returned (.tuple #[.int .i64 0, .int .i64 1]) ∧ Below w.heap.size w w' := by
  have Q := hide (call_valid_f hn hr hs hgl hv)
  go_enter Tryz.func21, Tryz.ntmps21
  go_wp2_with (first
    | (go_at_call 25; refine (Q.out).mono ?_; rintro en w1 ⟨rfl, hb⟩))
  refine bodyPost_ret (results_tmp2 rfl _ _ _) rfl ?_
  exact ⟨rfl, hb⟩
theorem cmpV_gt (A B : Nat) : decide ((0 : Int) < cmpV A B) = decide (B < A) := by
  unfold cmpV cmpI
  by_cases h : A < B
  · rw [if_pos (by omega), decide_eq_false (by omega : ¬ B < A)]; rfl
  · rw [if_neg (by omega)]
    by_cases h2 : A > B
    · rw [if_pos (by omega), decide_eq_true (by omega : B < A)]; rfl
    · rw [if_neg (by omega), decide_eq_false (by omega : ¬ B < A)]; rfl
set_option maxHeartbeats 8000000 in
set_option maxRecDepth 100000 in
theorem int_big (L : List Int) (p : Option Addr) (n c : Nat) (hn : n ≤ 590) (hs : Shp p n c) (w : World) (hgl : GlOk (memOf w) w [] (InT sig0 [])) (hr : ILRow w p n L) (hv : VN L) (hb : vv L > 4611686018427387904) :
    Calls Tryz.prog 21 #[.slice p n c] w fun en w' => en = .returned (.tuple #[.int .i64 0, .int .i64 2]) ∧ Below w.heap.size w w' := by
  have Q := hide (call_valid_t hn hr hs hgl hv)
  have QF := hide (fun V (hB : Below w.heap.size w V) => call_from (V := V) (x := 4611686018427387904) (by omega) (hgl.later hB))
  have QC := hide (fun V (hB : Below w.heap.size w V) p2 n2 c2 (h2 : ILRow V p2 n2 (nf 4611686018427387904)) (hs2 : Shp p2 n2 c2) => call_cmp (V := V) hn (hr.keep hB) hs h2 hs2 hv.2.1 (nf_dg _) hv.2.2 (nf_noz _) (hgl.later hB))
  have hc : cmpV (vv L) (vv (nf 4611686018427387904)) = 1 := by
    rw [vv_nf]
    unfold cmpV cmpI
    rw [if_neg (by omega), if_pos (by omega)]
  rw [hc] at QC
  clear hc hb
  go_enter Tryz.func21, Tryz.ntmps21
  go_wp2_with (first
    | (go_at_call 25; refine (Q.out).mono ?_; rintro en w1 ⟨rfl, hb1⟩)
    | (go_at_call 38; refine (QF.out _ hb1).mono ?_; rintro en w2 ⟨p2, n2, c2, rfl, g1, g2, hb2⟩; (have hb3 := hb1.trans (hb2.mono hb1.size)))
    | (go_at_call 44; refine (QC.out _ hb3 _ _ _ g1 g2).mono ?_; rintro en w4 ⟨rfl, hb4⟩))
  refine bodyPost_ret (results_tmp2 rfl _ _ _) rfl ?_
  exact ⟨rfl, hb3.trans (hb4.mono hb3.size)⟩
set_option maxHeartbeats 8000000 in
set_option maxRecDepth 100000 in
theorem int_fit (L : List Int) (p : Option Addr) (n c : Nat) (hn : n ≤ 590) (hs : Shp p n c) (w : World) (hgl : GlOk (memOf w) w [] (InT sig0 [])) (hr : ILRow w p n L) (hv : VN L) (hb : vv L ≤ 4611686018427387904) :
    Calls Tryz.prog 21 #[.slice p n c] w fun en w' => en = .returned (.tuple #[.int .i64 (vv L : Int), .int .i64 0]) ∧ Below w.heap.size w w' := by
  have Q := hide (call_valid_t hn hr hs hgl hv)
  have QF := hide (fun V (hB : Below w.heap.size w V) => call_from (V := V) (x := 4611686018427387904) (by omega) (hgl.later hB))
  have QC := hide (fun V (hB : Below w.heap.size w V) p2 n2 c2 (h2 : ILRow V p2 n2 (nf 4611686018427387904)) (hs2 : Shp p2 n2 c2) => call_cmp (V := V) hn (hr.keep hB) hs h2 hs2 hv.2.1 (nf_dg _) hv.2.2 (nf_noz _) (hgl.later hB))
  have HR := hide hr
  obtain ⟨cv, hc, hc0⟩ : ∃ cv : Int, cmpV (vv L) (vv (nf 4611686018427387904)) = cv ∧ decide (0 < cv) = false := by
    refine ⟨_, rfl, ?_⟩
    rw [cmpV_gt, vv_nf, decide_eq_false_iff_not]
    omega
  rw [hc] at QC
  clear hc
  have HLW := hide (fun b off (hp : p = some ⟨b, off, none⟩) => (show n = 0 ∨ b < w.heap.size from by
    obtain ⟨hl, h0 | ⟨b', off', hp', hcc⟩⟩ := hr
    · exact .inl h0
    · by_cases hz : n = 0
      · exact .inl hz
      · rw [hp] at hp'
        injection hp' with hp'
        injection hp' with e1 e2
        subst e1
        exact .inr (cell_lt (hcc 0 (by omega)))))
  have HD := hide (show Dg L ∧ vv L ≤ 4611686018427387904 from ⟨hv.2.1, hb⟩)
  clear hr hv hb
  refine (callsIn_wide (n := 4)).1 ?_
  refine callsIn_of_wp_marks Tryz.func21 rfl trivial ?_ rfl
  simp only [Tryz.ntmps21, List.size_toArray, List.length_cons, List.length_nil, Nat.reduceAdd, Nat.reduceSub, Array.replicate_succ, Array.replicate_zero, List.push_toArray, List.append_toArray, List.nil_append, List.cons_append]
  gi_wp2_with (first
    | (refine ⟨trivial, ?_⟩; gi_at_call 25; refine (callsIn_wide.2 Q.out).mono ?_; rintro en w1 ⟨rfl, hb1⟩)
    | (refine ⟨trivial, ?_⟩; gi_at_call 38; refine (callsIn_wide.2 (QF.out _ hb1)).mono ?_; rintro en w2 ⟨p2, n2, c2, rfl, g1, g2, hb2⟩; (have hb3 := hb1.trans (hb2.mono hb1.size)))
    | (refine ⟨trivial, ?_⟩; gi_at_call 44; refine (callsIn_wide.2 (QC.out _ hb3 _ _ _ g1 g2)).mono ?_; rintro en w4 ⟨rfl, hb4⟩; (have hb5 := hb3.trans (hb4.mono hb3.size)); clear g1 g2)
    | (refine ⟨trivial, ?_⟩; gi_at_call 51; refine (back_in Fence.wide _ trivial rfl _ _ _ _).mono ?_; rintro en w6 ⟨rfl, rfl⟩))
  obtain ⟨B0, hB0⟩ : ∃ B0, w4.heap.size = B0 := ⟨_, rfl⟩
  have bS := Boxed.new w4 3 (.int .i64 0)
  have bN := Boxed.new (w4.alloc (Obj.cells #[Value.int IntKind.i64 0] 3)) 27 (.slice p n c)
  have bS2 : Boxed ((w4.alloc (Obj.cells #[Value.int IntKind.i64 0] 3)).alloc (Obj.cells #[Value.slice p n c] 27)) w4.heap.size 3 (.int .i64 0) := bS.alloc _
  have hsz : ((w4.alloc (Obj.cells #[Value.int IntKind.i64 0] 3)).alloc (Obj.cells #[Value.slice p n c] 27)).heap.size = w4.heap.size + 2 := by simp
  have hW : Below w.heap.size w ((w4.alloc (Obj.cells #[Value.int IntKind.i64 0] 3)).alloc (Obj.cells #[Value.slice p n c] 27)) := (hb5.alloc hb5.size _).alloc (by have := hb5.size; simp; omega) _
  have hHR := HR.out.keep hW
  have hsz1 : (w4.alloc (Obj.cells #[Value.int IntKind.i64 0] 3)).heap.size = w4.heap.size + 1 := by simp
  rw [hsz1] at bN
  have hb5s := hb5.size
  obtain ⟨W0, hW0⟩ : ∃ W0, ((w4.alloc (Obj.cells #[Value.int IntKind.i64 0] 3)).alloc (Obj.cells #[Value.slice p n c] 27)) = W0 := ⟨_, rfl⟩
  rw [hW0] at bN bS2 hW hHR hsz ⊢
  clear hW0 bS hsz1
  rw [hB0] at bN bS2 hsz hb5s ⊢
  refine wpIn_rangeFunc_ownH rfl (by omega) (gf := 62) (lb := #[.pointer (some ⟨B0 + 1, 0, none⟩)]) rfl trivial (enters_of Tryz.func62 (by kernel_rfl) rfl)
    (back_stops Fence.wide 3 trivial rfl (by omega) (B0 + 1) (B0 + 2) B0 (by omega) p n c L (by omega) W0 (by omega) (by omega) bN.cell hHR (fun b off hp => (HLW.out b off hp).imp id (fun h => by omega))) KX.trans (KX.put (by omega)) (Below.refl _ _) (fun _ => rfl)
    (fun pre W => Boxed W B0 3 (.int .i64 (bkV pre)) ∧ (Below w.heap.size w W ∧ B0 + 2 ≤ W.heap.size))
    (fun c pre W => False)
    (OwnFrom.and (Go.Own.from (boxed_own _ _ (fun pre => Value.int .i64 (bkV pre))) _) (OwnFrom.and (ownFrom_below (Nat.le_refl _) (by omega)) (fun _ _ _ _ hs hg _ => Nat.le_trans hs hg.size)))
    (fun cc => ownFrom_pure _ (fun (pre : List (Nat × Int)) => False))
    ⟨bS2, hW, by omega⟩
    (fun x a' W => a' = { tmps := #[Value.slice p n c, undef, Value.int IntKind.i64 0, Value.int IntKind.i64 0, Value.slice p2 n2 c2,
          Value.int IntKind.i64 0, Value.pointer (some { block := B0, off := 0 }), undef, .int .i64 x.2,
          Value.slice p n c, Value.bool true, Value.bool false,
          Value.tuple #[Value.slice p2 n2 c2, Value.int IntKind.i64 0],
          Value.tuple #[Value.slice p2 n2 c2, Value.int IntKind.i64 0], Value.slice p2 n2 c2, Value.int IntKind.i64 0,
          Value.slice p n c, Value.slice p2 n2 c2, Value.int IntKind.i64 cv, Value.bool false, Value.slice p n c,
          Value.func (Fn.func 62) #[] #[Value.pointer (some { block := B0 + 1, off := 0 })], .int .i64 (x.1 : Int), .int .i64 x.2,
          undef, undef, undef, undef, undef], defers := [] })
    (fun x a' _ X Y row hs hg hr => hs)
    ?assign ?body ?done ?stop
  case assign =>
    rintro l pre x W K hI hK
    unfold encB
    gi_wp2
    exact hK _ _ (KeepsFrom.refl _ _) (KX.refl _ _ _) hI rfl
  case body =>
    rintro l pre x a' W hl ⟨r, hr⟩ ⟨hbx, hB1, hs1⟩ rfl hlt
    have c4 := hbx.cell
    have f4 := hbx.frozen
    have HBX := hide hbx
    have HB1 := hide hB1
    clear hbx hB1
    gi_wp2
    refine ⟨(KeepsOthers.setCell _ _ _).from _, ⟨by simp [World.setCell], fun q hq hne => Below.heap_setCell _ _ _ _ hne⟩, ?_, HB1.out.setCell (p := ⟨B0, 0, none⟩) (by show w.heap.size ≤ B0; omega) _, by simpa [World.setCell] using hs1⟩
    rw [bkV_snoc]
    exact HBX.out.set _
  case done =>
    rintro D ys W hD rfl ⟨hbx, hB1, hs1⟩ hK
    have c4 := hbx.cell
    gi_wp2
    rw [bkV_back HD.out.1 HD.out.2 L.length (Nat.le_refl _), Nat.sub_self, List.drop_zero]
    refine ⟨by simp, .inl ⟨_, _, rfl, run_takeDeferred hK, ?_⟩⟩
    refine ⟨.tuple #[.int .i64 (vv L : Int), .int .i64 0], ?_, rfl, hB1.trans (belowK_b (w := w) (Nat.le_refl _) W D _ _ (by omega) hK rfl rfl)⟩
    simp [results, Tryz.f21, go_sem]
  case stop =>
    rintro D cc pre W hD - h hK
    exact h.elim
end Go.Proofs.YtlpebecbipjoaaaGreatDoor
