/- The walks of the reference of the checksum. -/
import Derived.Test.YtdmedeaknnldcaaDoorCrcWalkB
namespace Go.Proofs.YtdmedeaknnldcaaDoor
open Go.RowKit Crc

theorem utc_in (n low high : Int) (w : World) :
    Calls Tryd.prog 30 #[.int .i64 n, .int .i64 low, .int .i64 high] w fun e w' => e = .returned (.bool (decide (low ≤ n ∧ n ≤ high))) ∧ w = w' := by
  by_cases h1 : low ≤ n
  · by_cases h2 : n ≤ high
    all_goals
      go_enter Tryd.func30, Tryd.ntmps30
      go_wp2
      go_ret
      exact ⟨by simp [*] <;> omega, rfl⟩
  · go_enter Tryd.func30, Tryd.ntmps30
    go_wp2
    go_ret
    exact ⟨by simp [*] <;> omega, rfl⟩

theorem ref_flip_range (s : ByteArray) (at_ len mask : Int) (h : len < 1 ∨ 32 < len ∨ at_ < 0 ∨ mask < 0 ∨ 2 ^ len.toNat ≤ mask) (w : World) :
    Calls Tryd.prog 14 #[.string s, .int .i64 at_, .int .i64 len, .int .i64 mask] w fun e w' => e = .returned (.tuple #[.string ByteArray.empty, .int .i64 2]) ∧ Below w.heap.size w w' := by
  by_cases c1 : 1 ≤ len ∧ len ≤ 32
  · have hd : decide (1 ≤ len ∧ len ≤ 32) = true := by simp; omega
    by_cases c3 : at_ < 0
    · go_enter Tryd.func14, Tryd.ntmps14
      go_wp2_with (first | (go_at_call 30; refine (utc_in _ _ _ _).mono ?_; rw [hd]; rintro e w1 ⟨rfl, rfl⟩))
      go_ret2
      exact ⟨rfl, Below.refl _ _⟩
    by_cases c4 : mask < 0
    · go_enter Tryd.func14, Tryd.ntmps14
      go_wp2_with (first | (go_at_call 30; refine (utc_in _ _ _ _).mono ?_; rw [hd]; rintro e w1 ⟨rfl, rfl⟩))
      go_ret2
      exact ⟨rfl, Below.refl _ _⟩
    obtain ⟨p, hp, hP, hp1, hp2⟩ := pow_at len.toNat (by omega)
    have c5 : p ≤ mask := by rw [hP.out]; omega
    clear h
    go_enter Tryd.func14, Tryd.ntmps14
    go_wp2_with (first | (go_at_call 30; refine (utc_in _ _ _ _).mono ?_; rw [hd]; rintro e w1 ⟨rfl, rfl⟩))
    go_ret2
    exact ⟨rfl, Below.refl _ _⟩
  · have hd : decide (1 ≤ len ∧ len ≤ 32) = false := by simp; omega
    go_enter Tryd.func14, Tryd.ntmps14
    go_wp2_with (first | (go_at_call 30; refine (utc_in _ _ _ _).mono ?_; rw [hd]; rintro e w1 ⟨rfl, rfl⟩))
    go_ret2
    exact ⟨rfl, Below.refl _ _⟩

theorem ref_flip_short (s : ByteArray) (hs : s.size ≤ 1048576) (at_ len mask : Int) (c1 : 1 ≤ len) (c2 : len ≤ 32) (c3 : 0 ≤ at_) (c4 : 0 ≤ mask) (c5 : mask < 2 ^ len.toNat) (h : 8 * s.size - len < at_) (w : World) :
    Calls Tryd.prog 14 #[.string s, .int .i64 at_, .int .i64 len, .int .i64 mask] w fun e w' => e = .returned (.tuple #[.string ByteArray.empty, .int .i64 4]) ∧ Below w.heap.size w w' := by
  obtain ⟨p, hp, hP, hp1, hp2⟩ := pow_at len.toNat (by omega)
  have c5 : mask < p := by rw [hP.out]; exact c5
  have hd : decide (1 ≤ len ∧ len ≤ 32) = true := by simp; omega
  go_enter Tryd.func14, Tryd.ntmps14
  go_wp2_with (first | (go_at_call 30; refine (utc_in _ _ _ _).mono ?_; rw [hd]; rintro e w1 ⟨rfl, rfl⟩))
  go_ret2
  exact ⟨rfl, Below.refl _ _⟩

set_option maxRecDepth 100000 in
theorem ref_flip_ok (s : ByteArray) (hs : s.size ≤ 1048576) (at_ len mask : Nat) (c1 : 1 ≤ len) (c2 : len ≤ 32) (c5 : mask < 2 ^ len) (h : at_ + len ≤ 8 * s.size) (w : World) :
    Calls Tryd.prog 14 #[.string s, .int .i64 at_, .int .i64 len, .int .i64 mask] w fun e w' => e = .returned (.tuple #[.string ⟨(flipTo s.data.toList at_ mask len).toArray⟩, .int .i64 0]) ∧ Below w.heap.size w w' := by
  obtain ⟨p, hp, hP, hp1, hp2⟩ := pow_at len (by omega)
  have c5' : (mask : Int) < p := by rw [hP.out]; exact_mod_cast c5
  have hat : (at_ : Int) ≤ 8 * s.size - len := by omega
  have hd : decide (1 ≤ (len : Int) ∧ (len : Int) ≤ 32) = true := by simp; omega
  go_enter Tryd.func14, Tryd.ntmps14
  go_wp2_with (first
    | (go_at_call 30; refine (utc_in _ _ _ _).mono ?_; rw [hd]; rintro e w1 ⟨rfl, rfl⟩)
    | (refine wpList_string_bytes rfl 9 73 5 _ rfl Tryd.underlying9 Tryd.underlying73 Tryd.underlying5 s rfl ?_; intro cap hcap))
  clear c5 hp hP hp1 hp2 c5'
  go_loopw [11] (fun i wr => ∃ k : Nat, k ≤ len ∧ i = .int .i64 k ∧ wr.heap[w.heap.size]? = some (.cells (brow (flipTo s.data.toList at_ mask k) cap) 5 (cap, cap + 1)) ∧ Below w.heap.size w wr) (fun i _ => len - (intOf i).toNat)
  case atStart => exact ⟨0, by omega, rfl, (by rw [heap_drew, heap_alloc_new, bytesRow_eq]; rfl), (below1 _).drew⟩
  case round =>
    obtain ⟨k, hk, rfl, hg, hb⟩ := hrel
    by_cases hlt : k < len
    · obtain ⟨b, hbit⟩ : ∃ b, b = mask / 2 ^ k % 2 := ⟨_, rfl⟩
      have eb : bits .and .i64 ((mask : Int) / 2 ^ k) 1 = (b : Int) := by
        rw [i64_and1, hbit]
        have : ((mask : Int) / 2 ^ k) = ((mask / 2 ^ k : Nat) : Int) := by simp
        rw [this]; omega
      have hb1 : b ≤ 1 := by omega
      have HB := hide hbit
      clear hbit
      by_cases hone : b = 1
      · have hT : ((b : Int) == 1) = true := by rw [beq_iff_eq]; omega
        rw [hone] at HB
        clear hone
        obtain ⟨pp, hpp⟩ : ∃ pp, pp = (at_ + k) / 8 := ⟨_, rfl⟩
        obtain ⟨qq, hqq⟩ : ∃ qq, qq = (at_ + k) % 8 := ⟨_, rfl⟩
        have hpl : pp < s.size := by omega
        have hql : qq < 8 := by omega
        have e53 : IntKind.i64.wrap ((at_ : Int) + (k : Int)) = (at_ : Int) + (k : Int) := IntWalk.i64_in _ (by omega)
        have e54 : ((at_ : Int) + (k : Int)) / 8 = (pp : Int) := by omega
        have e61 : ((at_ : Int) + (k : Int)) % 8 = (qq : Int) := by omega
        obtain ⟨sh, hsh⟩ : ∃ sh, sh = 2 ^ qq := ⟨_, rfl⟩
        have hshb : sh < 256 := by
          have h1 : 2 ^ qq ≤ 2 ^ 7 := Nat.pow_le_pow_right (by decide) (by omega)
          omega
        have e62 : IntKind.u8.wrap ((2 : Int) ^ qq) = (sh : Int) := by
          have : (2 : Int) ^ qq = (sh : Int) := by rw [hsh]; simp
          rw [this]; exact IntWalk.u8_in _ (by omega)
        have HL : (flipTo s.data.toList at_ mask k).length = s.size := by rw [flipTo_length]; rfl
        obtain ⟨c, hc⟩ : ∃ c, c = (flipTo s.data.toList at_ mask k)[pp]'(by omega) := ⟨_, rfl⟩
        have hcell : wr.cell? ⟨w.heap.size, pp, none⟩ = some (.int .u8 ((c.toNat : Nat) : Int)) := by
          rw [cell_of_row wr _ _ _ _ _ hg, brow_get (by omega), hc]
        have hfz : wr.frozen? ⟨w.heap.size, pp, none⟩ = false := frozen_marked hg (by omega)
        have hcb : c.toNat < 256 := c.toNat_lt
        obtain ⟨d, hd⟩ : ∃ d : UInt8, d = c ^^^ UInt8.ofNat sh := ⟨_, rfl⟩
        have e64 : bits .xor .u8 ((c.toNat : Nat) : Int) (sh : Int) = ((d.toNat : Nat) : Int) := by
          rw [u8_xor_nat _ _ hcb hshb, hd]; simp [Nat.mod_eq_of_lt hshb]
        have hset : (flipTo s.data.toList at_ mask k).set pp d = flipTo s.data.toList at_ mask (k + 1) := by
          simp only [flipTo]
          rw [← hpp, ← hqq, ← HB.out, Nat.one_mul, ← hsh, hd, hc, List.getD_eq_getElem?_getD, List.getElem?_eq_getElem (by omega)]; rfl
        have hset' := setCell_row (i := pp) hg (.int .u8 ((d.toNat : Nat) : Int))
        rw [brow_set (by omega), hset] at hset'
        have HG := hide hset'
        clear hset' hset hqq hsh hc hd hg HB
        have hpl' : (pp : Int) < s.size := by omega
        clear HL hpp
        go_wp2
        go_roundw
        case rel => exact ⟨k + 1, by omega, by go_num, HG.out, hb.setCell (by simp) _⟩
        case measure => simp [intOf]; omega
      · have hT : ((b : Int) == 1) = false := by rw [beq_eq_false_iff_ne]; omega
        have hz : b = 0 := by omega
        rw [hz] at HB
        have hset : flipTo s.data.toList at_ mask (k + 1) = flipTo s.data.toList at_ mask k := by
          simp only [flipTo]
          rw [← HB.out, Nat.zero_mul]
          apply List.ext_getElem?
          intro i
          rw [List.getElem?_set]
          split
          · rename_i hi
            subst hi
            split
            · rw [List.getD_eq_getElem?_getD, List.getElem?_eq_getElem (by assumption)]; simp
            · rw [List.getElem?_eq_none (by omega)]
          · rfl
        have HG := hide hset
        clear hset hz hone HB
        go_wp2
        go_roundw
        case rel => exact ⟨k + 1, by omega, by go_num, by rw [HG.out]; exact hg, hb⟩
        case measure => simp [intOf]; omega
    · have e : k = len := by omega
      rw [e] at hg
      clear e
      have HL : (flipTo s.data.toList at_ mask len).length = s.size := by rw [flipTo_length]; rfl
      go_wp2_with (refine wpList_bytes_string rfl 73 9 5 _ rfl Tryd.underlying73 Tryd.underlying5 Tryd.underlying9 ⟨w.heap.size, 0, none⟩ s.size cap (flipTo s.data.toList at_ mask len) rfl HL (brow_cells hg) ?_)
      go_ret2
      exact ⟨rfl, hb⟩
end Go.Proofs.YtdmedeaknnldcaaDoor
