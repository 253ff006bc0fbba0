/- The walks of the checksum's functions (package crc): each function returns what the plain numbers say. -/
import Derived.Test.YtdmedeaknnldcaaGreatDoorProg
import Derived.Test.YtdmedeaknnldcaaGreatDoorLib
import Derived.Test.YtdmedeaknnldcaaGreatDoorCrcMath
namespace Go.Proofs.YtdmedeaknnldcaaGreatDoor
open Go.RowKit Crc

@[irreducible] def tabRow (k : Nat) : Array Value := ((List.range 256).map fun j => Value.int .i64 (if j < k then ((bsteps 8 j : Nat) : Int) else 0)).toArray
theorem tabRow_size (k : Nat) : (tabRow k).size = 256 := by simp [tabRow]
theorem tabRow_get {k j : Nat} (h : j < 256) : (tabRow k)[j]? = some (.int .i64 (if j < k then ((bsteps 8 j : Nat) : Int) else 0)) := by simp [tabRow, h]
theorem tabRow_set {k : Nat} (h : k < 256) : (tabRow k).setIfInBounds k (.int .i64 ((bsteps 8 k : Nat) : Int)) = tabRow (k + 1) := by
  apply Array.ext_getElem?
  intro i
  rw [Array.getElem?_setIfInBounds, tabRow_size]
  by_cases hi : i < 256
  · rw [tabRow_get hi, tabRow_get hi]
    by_cases e : k = i
    · subst e; simp [h]
    · rw [if_neg e]
      have : (i < k + 1) ↔ (i < k) := by omega
      simp [this]
  · have n1 : (tabRow k)[i]? = none := Array.getElem?_eq_none (by rw [tabRow_size]; omega)
    have n2 : (tabRow (k + 1))[i]? = none := Array.getElem?_eq_none (by rw [tabRow_size]; omega)
    rw [if_neg (by omega), n1, n2]
theorem tabRow_ints (k : Nat) : (tabRow k).all (·.oneCell') = true := by simp [tabRow, Value.oneCell']
theorem zeroTab : (Tryz.prog.info? 144).bind (fun i => i.zero.map Value.cells) = some (tabRow 0) := by kernel_rfl
theorem sizeTab : (Tryz.prog.info? 144).map (·.size) = some 256 := by kernel_rfl

theorem bit_yes {n : Nat} (h : (bits BinOp.and IntKind.i64 (n : Int) 1 == 1) = true) (hn : n < 2 ^ 32) : bits BinOp.xor IntKind.i64 ((n : Int) / 2) 3988292384 = ((bstep n : Nat) : Int) := by
  rw [i64_and1, beq_iff_eq] at h
  have e : ((n : Int) / 2) = ((n / 2 : Nat) : Int) := by omega
  rw [e]
  have := i64_xor_nat (n / 2) 3988292384 (by omega) (by omega)
  unfold bstep
  rw [if_pos (by omega)]
  exact this
theorem bit_no {n : Nat} (h : (bits BinOp.and IntKind.i64 (n : Int) 1 == 1) = false) : ((n : Int) / 2) = ((bstep n : Nat) : Int) := by
  rw [i64_and1, beq_eq_false_iff_ne] at h
  unfold bstep
  rw [if_neg (by omega)]
  omega

set_option maxRecDepth 100000 in
theorem crc_table (w : World) : Calls Tryz.prog 112 #[] w fun e w' => e = .returned (.agg (tabRow 256)) ∧ Below w.heap.size w w' := by
  go_enter Tryz.func112, Tryz.ntmps112
  go_wp2_with (refine wpList_alloc_known rfl 144 rfl (tabRow 0) zeroTab ?_)
  go_loopw [5] (fun i wr => ∃ k : Nat, k ≤ 256 ∧ i = .int .i64 k ∧ wr.heap[w.heap.size + 1]? = some (.cells (tabRow k) 144 (0, 0)) ∧ wr.heap[w.heap.size]? = some (.cells (tabRow 0) 144 (0, 0)) ∧ Below w.heap.size w wr) (fun i _ => 256 - (intOf i).toNat)
  case atStart => exact ⟨0, by omega, rfl, heap_alloc2_new _ _ _, heap_alloc2_old _ _ _, below2 _ _⟩
  case round =>
    obtain ⟨k, hk, rfl, h1, h0, hb⟩ := hrel
    by_cases hlt : k < 256
    · have hc : wr.cell? ⟨w.heap.size + 1, k, none⟩ = some (.int .i64 0) := by
        rw [cell_of_row wr _ _ _ _ _ h1, tabRow_get hlt, if_neg (by omega)]
      have hf : wr.frozen? ⟨w.heap.size + 1, k, none⟩ = false := frozen_of_row wr _ _ _ _ h1
      have H1 := hide h1
      have H0 := hide h0
      clear h1 h0
      go_wp2_with fail
      go_loop [3, 9] (fun r j => ∃ n : Nat, n ≤ 8 ∧ j = .int .i64 n ∧ r = .int .i64 ((bsteps n k : Nat) : Int)) (fun _ j => 8 - (intOf j).toNat)
      case atStart => exact ⟨0, by omega, rfl, rfl⟩
      case round =>
        obtain ⟨n, hn, rfl, rfl⟩ := hrel
        by_cases hn8 : n < 8
        · go_wp2_with fail
          · go_round
            case rel =>
              refine ⟨n + 1, by omega, by go_num, ?_⟩
              rw [bit_yes (by assumption) (bsteps_lt n (by omega))]
              rfl
            case measure => simp [intOf]; omega
          · go_round
            case rel =>
              refine ⟨n + 1, by omega, by go_num, ?_⟩
              rw [bit_no (by assumption)]
              rfl
            case measure => simp [intOf]; omega
        · obtain rfl : n = 8 := by omega
          go_wp2_with fail
          go_roundw
          case rel =>
            refine ⟨k + 1, by omega, by go_num, ?_, ?_, hb.setCell (by simp) _⟩
            · rw [heap_setCell_same _ _ _ _ _ _ H1.out, tabRow_set hlt]
            · rw [heap_setCell_other _ _ _ _ (by simp)]; exact H0.out
          case measure => simp [intOf]; omega
    · have e256 : k = 256 := by omega
      rw [e256] at h1
      clear e256
      go_wp2_with (first
        | (refine wpList_load_row rfl 144 _ rfl (w.heap.size + 1) rfl 144 (tabRow 256) (0, 0) _ h1 Tryz.underlying144 rfl (by rw [tabRow_size]; exact sizeTab) ?_)
        | (refine wpList_store_row rfl 144 _ _ rfl w.heap.size (tabRow 256) rfl rfl 144 (tabRow 0) h0 (by rw [tabRow_size]; exact sizeTab) (by rw [tabRow_size, tabRow_size]) (tabRow_ints _) ?_))
      refine bodyPost_ret (results_cell_row rfl _ _ w.heap.size 144 (tabRow 256) (0, 0) _ rfl (setRow_heap _ _ _ _ _ _ h0) Tryz.underlying144 rfl (by rw [tabRow_size]; exact sizeTab)) rfl ⟨rfl, below_row hb (Nat.le_refl _) _⟩

theorem take_snoc (s : ByteArray) (k : Nat) (h : k < s.size) : s.data.toList.take (k + 1) = s.data.toList.take k ++ [s[k]] := by
  rw [List.take_succ_eq_append_getElem (by simpa using h)]; rfl
set_option maxRecDepth 100000 in
theorem crc_update (n : Nat) (hn : n < 4294967296) (s : ByteArray) (hs : s.size ≤ maxLen) (w : World) :
    Calls Tryz.prog 98 #[.int .i64 n, .string s] w fun e w' => e = .returned (.int .i64 ((upd n s.data.toList : Nat) : Int)) ∧ Below w.heap.size w w' := by
  unfold maxLen at hs
  have ex : bits .xor .i64 (n : Int) 4294967295 = ((n ^^^ all : Nat) : Int) := i64_xor_nat n 4294967295 (by omega) (by omega)
  obtain ⟨r0, hr0⟩ : ∃ r0, r0 = n ^^^ all := ⟨_, rfl⟩
  rw [← hr0] at ex
  have hb0 : r0 < 4294967296 := by rw [hr0]; exact xor_lt 32 hn all_lt
  have H0 := hide hr0
  clear hr0
  go_enter Tryz.func98, Tryz.ntmps98
  go_wp2_with (first
    | (go_at_call 112; refine (crc_table _).mono ?_; rintro e w1 ⟨rfl, hb1⟩)
    | (refine wpList_alloc_known rfl 144 rfl (tabRow 0) zeroTab ?_)
    | (refine wpList_store_row rfl 144 _ _ rfl w1.heap.size (tabRow 256) rfl rfl 144 (tabRow 0) (heap_alloc_new _ _) (by rw [tabRow_size]; exact sizeTab) (by rw [tabRow_size, tabRow_size]) (tabRow_ints _) ?_))
  have hg : ((w1.alloc (Obj.cells (tabRow 0) 144)).setRow w1.heap.size (tabRow 256)).heap[w1.heap.size]? = some (.cells (tabRow 256) 144 (0, 0)) := setRow_heap _ _ _ _ _ _ (heap_alloc_new _ _)
  have hbW : Below w.heap.size w ((w1.alloc (Obj.cells (tabRow 0) 144)).setRow w1.heap.size (tabRow 256)) := below_row (hb1.alloc hb1.size _) hb1.size _
  generalize (w1.alloc (Obj.cells (tabRow 0) 144)).setRow w1.heap.size (tabRow 256) = W at hg hbW ⊢
  go_loop [6, 19] (fun r i => ∃ (k : Nat) (q : Nat), k ≤ s.size ∧ i = .int .i64 k ∧ r = .int .i64 q ∧ Hid (q = run r0 (s.data.toList.take k))) (fun _ i => s.size - (intOf i).toNat)
  case atStart => exact ⟨0, r0, Nat.zero_le _, rfl, rfl, hide (by rw [List.take_zero, run_nil])⟩
  case round =>
    obtain ⟨k, q, hk, rfl, rfl, hq⟩ := hrel
    by_cases hlt : k < s.size
    · have hqb : q < 4294967296 := by rw [hq.out]; exact run_lt _ hb0
      have hnext : run r0 (s.data.toList.take (k + 1)) = bsteps 8 (q ^^^ s[k].toNat) := by rw [take_snoc s k hlt, run_snoc, ← hq.out]
      have HN := hide hnext
      clear hnext hq
      obtain ⟨c, hc⟩ : ∃ c : Nat, c = s[k].toNat := ⟨_, rfl⟩
      have hcb : s[k].toNat < 256 := s[k].toNat_lt
      have e1 : bits .xor .i64 (q : Int) ((s[k].toNat : Nat) : Int) = ((q ^^^ c : Nat) : Int) := by rw [hc]; exact i64_xor_nat _ _ (by omega) (by omega)
      have hxb : q ^^^ c < 4294967296 := xor_lt 32 hqb (by omega)
      rw [← hc] at HN
      have HC := hide hc
      clear hc
      have hdiv : (q ^^^ c) / 256 = q / 256 := xor_div256 q c (by rw [HC.out]; exact hcb)
      generalize q ^^^ c = x at e1 hxb HN hdiv
      have e2 : bits .and .i64 (x : Int) 255 = ((x % 256 : Nat) : Int) := by rw [i64_and255]; omega
      obtain ⟨y, hy⟩ : ∃ y, y = x % 256 := ⟨_, rfl⟩
      rw [← hy] at e2
      have hyb : y < 256 := by omega
      have hcell : W.cell? ⟨w1.heap.size, y, none⟩ = some (.int .i64 ((bsteps 8 y : Nat) : Int)) := by
        rw [cell_of_row W _ _ _ _ _ hg, tabRow_get hyb, if_pos hyb]
      have hbs : bsteps 8 y < 4294967296 := bsteps_lt 8 (by omega)
      obtain ⟨z, hz⟩ : ∃ z, z = bsteps 8 y := ⟨_, rfl⟩
      rw [← hz] at hcell hbs
      have e3 : bits .xor .i64 ((q : Int) / 256) (z : Int) = ((bsteps 8 x : Nat) : Int) := by
        have e : (q : Int) / 256 = ((x / 256 : Nat) : Int) := by omega
        rw [e, i64_xor_nat _ _ (by omega) (by omega), byte_step x, hz, hy]
      clear hz hy hdiv
      have hlt' : 0 ≤ (k : Int) := by omega
      go_wp2
      go_round
      case rel => exact ⟨k + 1, bsteps 8 x, by omega, by go_num, rfl, hide HN.out.symm⟩
      case measure => simp [intOf]; omega
    · have hq2 : q = run r0 s.data.toList := by
        rw [hq.out, List.take_of_length_le (by simp; omega)]
      have hqb : q < 4294967296 := by rw [hq2]; exact run_lt _ hb0
      have e1 : bits .xor .i64 (q : Int) 4294967295 = ((upd n s.data.toList : Nat) : Int) := by
        rw [show (4294967295 : Int) = ((4294967295 : Nat) : Int) from rfl, i64_xor_nat _ _ (by omega) (by omega), hq2, H0.out]; rfl
      clear hq2 hq
      go_wp2
      go_ret
      exact ⟨rfl, hbW⟩

theorem crc_update' (n : Int) (h0 : 0 ≤ n) (h1 : n ≤ 4294967295) (s : ByteArray) (hs : s.size ≤ maxLen) (w : World) :
    Calls Tryz.prog 98 #[.int .i64 n, .string s] w fun e w' => e = .returned (.int .i64 ((upd n.toNat s.data.toList : Nat) : Int)) ∧ Below w.heap.size w w' := by
  obtain ⟨m, rfl⟩ := Int.eq_ofNat_of_zero_le h0
  exact crc_update m (by omega) s hs w
theorem crc_sum (s : ByteArray) (hs : s.size ≤ maxLen) (w : World) :
    Calls Tryz.prog 65 #[.string s] w fun e w' => e = .returned (.int .i64 ((sum s.data.toList : Nat) : Int)) ∧ Below w.heap.size w w' := by
  go_enter Tryz.func65, Tryz.ntmps65
  go_wp2_with (first | (go_at_call 98; refine (crc_update' 0 (by omega) (by omega) s hs _).mono ?_; rintro e w1 ⟨rfl, hb1⟩))
  go_ret
  exact ⟨rfl, hb1⟩

end Go.Proofs.YtdmedeaknnldcaaGreatDoor
