/- The statement CrcShort: the walk. -/
import Derived.Test.YtmpdgplgjclcoaaCrcLawB
import Derived.Test.YtmpdgplgjclcoaaLibQ
namespace Go.Proofs.Ytmpdgplgjclcoaa
open Go.RowKit Crc

theorem le4_cell_at {n : Nat} (hn : n < 2 ^ 32) {w : World} {g : Nat} (hg : g = w.heap.size) (j : Nat) (hj : j < (le4 n).length) :
    (w.alloc (.cells #[.int .u8 ((n : Int) % 256), .int .u8 ((n : Int) / 256 % 256), .int .u8 ((n : Int) / 65536 % 256), .int .u8 ((n : Int) / 16777216)] 5)).cell? ((⟨g, 0, none⟩ : Addr).add j) = some (.int .u8 ((le4 n)[j].toNat : Int)) := by
  subst hg; exact le4_cell hn j hj
theorem eq_beq {a b : Nat} {x y : List UInt8} (h : a = b ↔ x = y) : (((a : Int) == (b : Int)) == (x == y)) = true := by
  rw [beq_iff_eq, Bool.eq_iff_iff, beq_iff_eq, beq_iff_eq, ← h]; omega
set_option maxRecDepth 100000 in
theorem crc_short (a b : Int) (ha : 0 ≤ a ∧ a ≤ 4294967295) (hb0 : 0 ≤ b ∧ b ≤ 4294967295) (w : World) :
    Calls Try.prog 5 #[.int .u32 a, .int .u32 b] w fun e w' => e = .returned (.bool true) ∧ Below w.heap.size w w' := by
  obtain ⟨n, rfl⟩ := Int.eq_ofNat_of_zero_le ha.1
  obtain ⟨m, rfl⟩ := Int.eq_ofNat_of_zero_le hb0.1
  have hn : n < 2 ^ 32 := by omega
  have hm : m < 2 ^ 32 := by omega
  clear ha hb0
  have hb := Below.refl w.heap.size w
  go_enter Try.func5, Try.ntmps5
  go_wp2_with (first
    | (refine wpList_bytes_string rfl 27 9 5 _ rfl Try.underlying27 Try.underlying5 Try.underlying9 ⟨w.heap.size, 0, none⟩ 4 4 (le4 n) rfl rfl (le4_cell hn) ?_)
    | (refine wpList_bytes_string rfl 27 9 5 _ rfl Try.underlying27 Try.underlying5 Try.underlying9 ⟨w.heap.size + 1, 0, none⟩ 4 4 (le4 m) rfl rfl (le4_cell_at hm (by simp)) ?_))
  have hbW := (hb.alloc (Nat.le_refl _) (Obj.cells #[Value.int IntKind.u8 ((n : Int) % 256), Value.int IntKind.u8 ((n : Int) / 256 % 256), Value.int IntKind.u8 ((n : Int) / 65536 % 256), Value.int IntKind.u8 ((n : Int) / 16777216)] 5)).alloc (by simp) (Obj.cells #[Value.int IntKind.u8 ((m : Int) % 256), Value.int IntKind.u8 ((m : Int) / 256 % 256), Value.int IntKind.u8 ((m : Int) / 65536 % 256), Value.int IntKind.u8 ((m : Int) / 16777216)] 5)
  have hx4 : (⟨(le4 n).toArray⟩ : ByteArray).size = 4 := rfl
  have hy4 : (⟨(le4 m).toArray⟩ : ByteArray).size = 4 := rfl
  generalize (⟨(le4 n).toArray⟩ : ByteArray) = x at *
  generalize (⟨(le4 m).toArray⟩ : ByteArray) = y at *
  have xl : x.data.toList.length = 4 := by rw [size_data, hx4]
  have yl : y.data.toList.length = 4 := by rw [size_data, hy4]
  have f1 := eq_beq (a := sum x.data.toList) (b := sum y.data.toList) (x := x.toList) (y := y.toList)
    ⟨fun h => by rw [toList_data, toList_data]; exact sum_inj (by omega) (by omega) h, fun h => by rw [toList_data, toList_data] at h; rw [h]⟩
  have f2 := eq_beq (a := sum (x.extract 0 2).data.toList) (b := sum (y.extract 0 2).data.toList) (x := (x.extract 0 2).toList) (y := (y.extract 0 2).toList)
    ⟨fun h => by rw [toList_data, toList_data]; exact sum_inj (by rw [extract_pre, extract_pre, List.length_take, List.length_take]; omega) (by rw [extract_pre, List.length_take]; omega) h, fun h => by rw [toList_data, toList_data] at h; rw [h]⟩
  have ux : 2 ≤ x.size := by omega
  have uy : 2 ≤ y.size := by omega
  have q1 := fun w => crc_sum x (by rw [hx4]; decide) w
  have q2 := fun w => crc_sum y (by rw [hy4]; decide) w
  have q3 := fun w => crc_sum (x.extract 0 2) (by rw [ByteArray.size_extract, hx4]; decide) w
  have q4 := fun w => crc_sum (y.extract 0 2) (by rw [ByteArray.size_extract, hy4]; decide) w
  clear hx4 hy4 xl yl
  generalize sum x.data.toList = sx at *
  generalize sum y.data.toList = sy at *
  generalize sum (x.extract 0 2).data.toList = tx at *
  generalize sum (y.extract 0 2).data.toList = ty at *
  have Q1 := hide q1
  have Q2 := hide q2
  have Q3 := hide q3
  have Q4 := hide q4
  clear q1 q2 q3 q4
  generalize (w.alloc _).alloc _ = W at hbW ⊢
  refine wp_region_grown (by kernel_rfl) (by kernel_rfl) ?_
  repeat (first
    | go_big_quiet_step ((first
        | (go_at_call 8; exact more_of (crc_sane _))
        | (go_at_call 9; with_reducible exact more_of (Q1.out _))
        | (go_at_call 9; with_reducible exact more_of (Q2.out _))
        | (go_at_call 9; with_reducible exact more_of (Q3.out _))
        | (go_at_call 9; with_reducible exact more_of (Q4.out _)))))
  refine wpQuiet_nil ?_
  intro w2 hb2
  go_wp2
  go_ret
  exact ⟨rfl, hbW.trans (hb2.mono hbW.size)⟩
end Go.Proofs.Ytmpdgplgjclcoaa
