/- The statement CrcLinear: the walk. -/
import Derived.Test.YtmpdgplgjclcoaaCrcLawC
namespace Go.Proofs.Ytmpdgplgjclcoaa
open Go.RowKit Crc
set_option linter.unusedVariables false

/-- Three strings that part from a fourth by two changes and by both. -/
def Lin (s a b c : List UInt8) : Prop := ∀ j, c.getD j 0 = s.getD j 0 ^^^ a.getD j 0 ^^^ b.getD j 0
theorem lin_refl (s : List UInt8) : Lin s s s s := fun j => by simp
theorem getD_set (l : List UInt8) (k j : Nat) (v : UInt8) (hk : k < l.length) : (l.set k v).getD j 0 = if k = j then v else l.getD j 0 := by
  simp only [List.getD_eq_getElem?_getD, List.getElem?_set]
  split
  · rename_i h; subst h; simp
  · rfl
theorem lin_set {s a b c : List UInt8} (h : Lin s a b c) (k : Nat) (p q : UInt8) (ha : k < a.length) (hb : k < b.length) (hc : k < c.length) :
    Lin s (a.set k (a.getD k 0 ^^^ p)) (b.set k (b.getD k 0 ^^^ q)) (c.set k (c.getD k 0 ^^^ p ^^^ q)) := by
  intro j
  rw [getD_set _ _ _ _ ha, getD_set _ _ _ _ hb, getD_set _ _ _ _ hc]
  split
  · rename_i e; subst e
    rw [h k]
    generalize s.getD k 0 = x
    generalize a.getD k 0 = y
    generalize b.getD k 0 = z
    apply UInt8.toNat_inj.1
    simp only [UInt8.toNat_xor]
    apply Nat.eq_of_testBit_eq
    intro i
    simp only [Nat.testBit_xor]
    cases x.toNat.testBit i <;> cases y.toNat.testBit i <;> cases z.toNat.testBit i <;> cases p.toNat.testBit i <;> cases q.toNat.testBit i <;> rfl
  · exact h j
theorem lin_word {s a b c : List UInt8} (h : Lin s a b c) : word c = word s ^^^ word a ^^^ word b := by
  apply Nat.eq_of_testBit_eq
  intro i
  simp only [Nat.testBit_xor, word_testBit]
  rw [h (i / 8)]
  simp only [UInt8.toNat_xor, Nat.testBit_xor]

theorem heap_alloc_lt (w : World) (o : Obj) (i : Nat) (h : i < w.heap.size) : (w.alloc o).heap[i]? = w.heap[i]? := Below.heap_alloc w o i h
set_option maxRecDepth 100000 in
theorem crc_linear (s : ByteArray) (x y : Int) (hs : s.size ≤ 140737488351232) (hx : 0 ≤ x ∧ x ≤ 4294967295) (hy : 0 ≤ y ∧ y ≤ 4294967295) (w : World) :
    Calls Try.prog 4 #[.string s, .int .u32 x, .int .u32 y] w fun e w' => e = .returned (.bool true) ∧ Below w.heap.size w w' := by
  have hb := Below.refl w.heap.size w
  obtain ⟨x1, x2⟩ := hx
  obtain ⟨y1, y2⟩ := hy
  by_cases hl : 200 < s.size
  · have hl' : (200 : Int) < (s.size : Int) := by omega
    go_enter Try.func4, Try.ntmps4
    go_wp2_with (first | (go_at_call 8; refine (acc hb (crc_sane _)).mono ?_; clear hb; rintro e w1 ⟨rfl, hb⟩))
    go_ret
    exact ⟨rfl, hb⟩
  have hl' : (s.size : Int) ≤ 200 := by omega
  go_enter Try.func4, Try.ntmps4
  have tok1 : True := trivial
  have tok2 : True := trivial
  have tok3 : True := trivial
  go_wp2_with (first
    | (have _t := tok1; refine wpList_string_bytes rfl 9 27 5 _ rfl Try.underlying9 Try.underlying27 Try.underlying5 s rfl ?_; clear tok1 _t; intro ca hca)
    | (have _t := tok2; refine wpList_string_bytes rfl 9 27 5 _ rfl Try.underlying9 Try.underlying27 Try.underlying5 s rfl ?_; clear tok2 _t; intro cb hcb)
    | (have _t := tok3; refine wpList_string_bytes rfl 9 27 5 _ rfl Try.underlying9 Try.underlying27 Try.underlying5 s rfl ?_; clear tok3 _t; intro cap hcap))
  go_loopw [11] (fun i wr => ∃ (k : Nat) (A B C : List UInt8), k ≤ s.size ∧ i = .int .i64 k ∧ Hid (A.length = s.size ∧ B.length = s.size ∧ C.length = s.size ∧ Lin s.data.toList A B C) ∧ wr.heap[w.heap.size]? = some (.cells (brow A ca) 5 (ca, ca + 1)) ∧
      wr.heap[w.heap.size + 1]? = some (.cells (brow B cb) 5 (cb, cb + 1)) ∧ wr.heap[w.heap.size + 1 + 1]? = some (.cells (brow C cap) 5 (cap, cap + 1)) ∧ Below w.heap.size w wr) (fun i _ => s.size - (intOf i).toNat)
  case atStart =>
    refine ⟨0, s.data.toList, s.data.toList, s.data.toList, by omega, rfl, hide ⟨size_data s, size_data s, size_data s, lin_refl _⟩, ?_, ?_, ?_, ((((hb.alloc (Nat.le_refl _) _).alloc (by simp) _).alloc (by simp; omega) _).drew.drew.drew)⟩
    · simp only [heap_drew, bytesRow_eq]
      rw [heap_alloc_lt _ _ _ (by simp; omega), heap_alloc2_old]
    · simp only [heap_drew, bytesRow_eq]
      rw [heap_alloc_lt _ _ _ (by simp), heap_alloc2_new]
    · simp only [heap_drew, bytesRow_eq]
      have := heap_alloc_new ((w.alloc (Obj.cells (brow s.data.toList ca) 5 (ca, ca + 1))).alloc (Obj.cells (brow s.data.toList cb) 5 (cb, cb + 1))) (Obj.cells (brow s.data.toList cap) 5 (cap, cap + 1))
      simpa using this
  case round =>
    obtain ⟨k, A, B, C, hk, rfl, hI, hA, hB, hC, hb1⟩ := hrel
    clear hb
    obtain ⟨lA, lB, lC, hL⟩ := hI.out
    by_cases hlt : k < s.size
    · obtain ⟨p, ep⟩ : ∃ p : UInt8, x / 2 ^ (k % 25) % 256 = ((p.toNat : Nat) : Int) := ⟨UInt8.ofNat (x / 2 ^ (k % 25) % 256).toNat, by simp; omega⟩
      obtain ⟨q, eq⟩ : ∃ q : UInt8, y / 2 ^ (k % 23) % 256 = ((q.toNat : Nat) : Int) := ⟨UInt8.ofNat (y / 2 ^ (k % 23) % 256).toNat, by simp; omega⟩
      have hL2 := lin_set hL k p q (by omega) (by omega) (by omega)
      have nA : (A.set k (A.getD k 0 ^^^ p)).length = s.size := by rw [List.length_set, lA]
      have nB : (B.set k (B.getD k 0 ^^^ q)).length = s.size := by rw [List.length_set, lB]
      have nC : (C.set k (C.getD k 0 ^^^ p ^^^ q)).length = s.size := by rw [List.length_set, lC]
      have HI := hide (And.intro nA (And.intro nB (And.intro nC hL2)))
      clear nA nB nC hL2
      obtain ⟨a, ha⟩ : ∃ a, A.getD k 0 = a := ⟨_, rfl⟩
      obtain ⟨b, hb⟩ : ∃ b, B.getD k 0 = b := ⟨_, rfl⟩
      obtain ⟨c, hc⟩ : ∃ c, C.getD k 0 = c := ⟨_, rfl⟩
      rw [ha, hb, hc] at HI
      have ga : A[k]'(by omega) = a := by rw [← ha, List.getD_eq_getElem?_getD, List.getElem?_eq_getElem (by omega)]; rfl
      have gb : B[k]'(by omega) = b := by rw [← hb, List.getD_eq_getElem?_getD, List.getElem?_eq_getElem (by omega)]; rfl
      have gc : C[k]'(by omega) = c := by rw [← hc, List.getD_eq_getElem?_getD, List.getElem?_eq_getElem (by omega)]; rfl
      have cA : wr.cell? ⟨w.heap.size, k, none⟩ = some (.int .u8 ((a.toNat : Nat) : Int)) := by rw [cell_of_row wr _ _ _ _ _ hA, brow_get (by omega), ga]
      have cB : wr.cell? ⟨w.heap.size + 1, k, none⟩ = some (.int .u8 ((b.toNat : Nat) : Int)) := by rw [cell_of_row wr _ _ _ _ _ hB, brow_get (by omega), gb]
      have cC : wr.cell? ⟨w.heap.size + 1 + 1, k, none⟩ = some (.int .u8 ((c.toNat : Nat) : Int)) := by rw [cell_of_row wr _ _ _ _ _ hC, brow_get (by omega), gc]
      have fA : wr.frozen? ⟨w.heap.size, k, none⟩ = false := frozen_marked hA (by omega)
      have fB : wr.frozen? ⟨w.heap.size + 1, k, none⟩ = false := frozen_marked hB (by omega)
      have fC : wr.frozen? ⟨w.heap.size + 1 + 1, k, none⟩ = false := frozen_marked hC (by omega)
      have eA : bits .xor .u8 ((a.toNat : Nat) : Int) ((p.toNat : Nat) : Int) = (((a ^^^ p).toNat : Nat) : Int) := by rw [u8_xor_nat _ _ a.toNat_lt p.toNat_lt, UInt8.toNat_xor]
      have eB : bits .xor .u8 ((b.toNat : Nat) : Int) ((q.toNat : Nat) : Int) = (((b ^^^ q).toNat : Nat) : Int) := by rw [u8_xor_nat _ _ b.toNat_lt q.toNat_lt, UInt8.toNat_xor]
      have eC : bits .xor .u8 ((c.toNat : Nat) : Int) ((p.toNat : Nat) : Int) = (((c ^^^ p).toNat : Nat) : Int) := by rw [u8_xor_nat _ _ c.toNat_lt p.toNat_lt, UInt8.toNat_xor]
      have eD : bits .xor .u8 (((c ^^^ p).toNat : Nat) : Int) ((q.toNat : Nat) : Int) = (((c ^^^ p ^^^ q).toNat : Nat) : Int) := by rw [u8_xor_nat _ _ (c ^^^ p).toNat_lt q.toNat_lt]; exact congrArg _ (UInt8.toNat_xor (c ^^^ p) q).symm
      have sA := brow_set (l := A) (cap := ca) (j := k) (by omega) (a ^^^ p)
      have sB := brow_set (l := B) (cap := cb) (j := k) (by omega) (b ^^^ q)
      have sC := brow_set (l := C) (cap := cap) (j := k) (by omega) (c ^^^ p ^^^ q)
      generalize a ^^^ p = a2 at *
      generalize b ^^^ q = b2 at *
      generalize c ^^^ p ^^^ q = c2 at *
      generalize c ^^^ p = c1 at *
      have HA := hide hA
      have HB := hide hB
      have HC := hide hC
      have SA := hide sA
      have SB := hide sB
      have SC := hide sC
      have hlt' : (k : Int) < s.size := by omega
      clear ha hb hc ga gb gc hA hB hC sA sB sC lA lB lC hL hI
      go_wp2
      go_region
      go_wp2
      go_roundw
      case rel =>
        refine ⟨k + 1, A.set k a2, B.set k b2, C.set k c2, by omega, by go_num, HI, ?_, ?_, ?_, (((hb1.setCell (by dsimp only; omega) _).setCell (by dsimp only; omega) _).setCell (by dsimp only; omega) _).drew⟩
        · rw [heap_drew, heap_setCell_other _ _ _ _ (by dsimp only; omega), heap_setCell_other _ _ _ _ (by dsimp only; omega), setCell_row HA.out, SA.out]
        · rw [heap_drew, heap_setCell_other _ _ _ _ (by dsimp only; omega), setCell_row (by rw [heap_setCell_other _ _ _ _ (by dsimp only; omega)]; exact HB.out), SB.out]
        · rw [heap_drew, setCell_row (by rw [heap_setCell_other _ _ _ _ (by dsimp only; omega), heap_setCell_other _ _ _ _ (by dsimp only; omega)]; exact HC.out), SC.out]
      case measure => simp [intOf]; omega
    · have vA : ∀ p : More, (convert 27 9 (.slice (some ⟨w.heap.size, 0, none⟩) s.size ca)).run Try.prog (more wr p) = .ok (.string ⟨A.toArray⟩) (more wr p) := fun p => by
        have := run_convert_bytes_back (P := Try.prog) (more wr p) 27 9 5 ⟨w.heap.size, 0, none⟩ ca A Try.underlying27 Try.underlying5 Try.underlying9 (brow_cells (heap_more hA p))
        rwa [lA] at this
      have vB : ∀ p : More, (convert 27 9 (.slice (some ⟨w.heap.size + 1, 0, none⟩) s.size cb)).run Try.prog (more wr p) = .ok (.string ⟨B.toArray⟩) (more wr p) := fun p => by
        have := run_convert_bytes_back (P := Try.prog) (more wr p) 27 9 5 ⟨w.heap.size + 1, 0, none⟩ cb B Try.underlying27 Try.underlying5 Try.underlying9 (brow_cells (heap_more hB p))
        rwa [lB] at this
      have vC : ∀ p : More, (convert 27 9 (.slice (some ⟨w.heap.size + 1 + 1, 0, none⟩) s.size cap)).run Try.prog (more wr p) = .ok (.string ⟨C.toArray⟩) (more wr p) := fun p => by
        have := run_convert_bytes_back (P := Try.prog) (more wr p) 27 9 5 ⟨w.heap.size + 1 + 1, 0, none⟩ cap C Try.underlying27 Try.underlying5 Try.underlying9 (brow_cells (heap_more hC p))
        rwa [lC] at this
      have hsum := sum_linear (s := s.data.toList) (by rw [lA, size_data]) (by rw [lB, size_data]) (by rw [lC, size_data]) (lin_word hL)
      have zA : (⟨A.toArray⟩ : ByteArray).size ≤ maxLen := by show A.toArray.size ≤ _; rw [List.size_toArray, lA]; unfold maxLen; omega
      have zB : (⟨B.toArray⟩ : ByteArray).size ≤ maxLen := by show B.toArray.size ≤ _; rw [List.size_toArray, lB]; unfold maxLen; omega
      have zC : (⟨C.toArray⟩ : ByteArray).size ≤ maxLen := by show C.toArray.size ≤ _; rw [List.size_toArray, lC]; unfold maxLen; omega
      have q0 := fun w => crc_sum s (by unfold maxLen; omega) w
      have q1 := fun w => crc_sum ⟨A.toArray⟩ zA w
      have q2 := fun w => crc_sum ⟨B.toArray⟩ zB w
      have q3 := fun w => crc_sum ⟨C.toArray⟩ zC w
      simp only at q1 q2 q3
      have b0 := sum_lt s.data.toList
      have b1 := sum_lt A
      have b2 := sum_lt B
      generalize sum s.data.toList = n0 at *
      generalize sum A = n1 at *
      generalize sum B = n2 at *
      generalize sum C = n3 at *
      have e1 : bits .xor .i64 (n0 : Int) (n1 : Int) = ((n0 ^^^ n1 : Nat) : Int) := i64_xor_nat _ _ (by omega) (by omega)
      have b3 := xor_lt 32 b0 b1
      have e2 : bits .xor .i64 ((n0 ^^^ n1 : Nat) : Int) (n2 : Int) = (n3 : Int) := by rw [i64_xor_nat _ _ (by omega) (by omega), hsum]
      clear hsum
      generalize n0 ^^^ n1 = n4 at *
      generalize (⟨A.toArray⟩ : ByteArray) = sa at *
      generalize (⟨B.toArray⟩ : ByteArray) = sb at *
      generalize (⟨C.toArray⟩ : ByteArray) = sc at *
      have Q0 := hide q0
      have Q1 := hide q1
      have Q2 := hide q2
      have Q3 := hide q3
      clear q0 q1 q2 q3 zA zB zC b0 b1 b2 b3 hA hB hC lA lB lC hL hI
      go_wp2
      refine wp_region_grown (by kernel_rfl) (by kernel_rfl) ?_
      repeat (first
        | go_big_quiet_step ((first
            | (go_at_call 8; exact more_of (crc_sane _))
            | (go_at_call 9; with_reducible exact more_of (Q0.out _))
            | (go_at_call 9; with_reducible exact more_of (Q1.out _))
            | (go_at_call 9; with_reducible exact more_of (Q2.out _))
            | (go_at_call 9; with_reducible exact more_of (Q3.out _)))))
      refine wpQuiet_nil ?_
      intro w2 hb2
      go_wp2
      go_ret
      exact ⟨rfl, hb1.trans (hb2.mono hb1.size)⟩
end Go.Proofs.Ytmpdgplgjclcoaa
