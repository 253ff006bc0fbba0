/- The walks of crc.Append, crc.Check, crc.Flip. -/
import Derived.Test.YtmpdgplgjclcoaaCrcWalk
namespace Go.Proofs.Ytmpdgplgjclcoaa
open Go.RowKit Crc

def le4 (n : Nat) : List UInt8 := [UInt8.ofNat n, UInt8.ofNat (n / 256), UInt8.ofNat (n / 65536), UInt8.ofNat (n / 16777216)]
theorem le4_cell {n : Nat} (hn : n < 2 ^ 32) {w : World} (j : Nat) (hj : j < (le4 n).length) :
    (w.alloc (.cells #[.int .u8 ((n : Int) % 256), .int .u8 ((n : Int) / 256 % 256), .int .u8 ((n : Int) / 65536 % 256), .int .u8 ((n : Int) / 16777216)] 5)).cell? ((⟨w.heap.size, 0, none⟩ : Addr).add j) = some (.int .u8 ((le4 n)[j].toNat : Int)) := by
  have hj' : j < 4 := hj
  rcases j with _ | _ | _ | _ | j
  · simp [le4, go_sem]
  · simp [le4, go_sem]
  · simp [le4, go_sem]
  · simp [le4, go_sem]; omega
  · omega
def appended (s : ByteArray) : ByteArray := s ++ ⟨(le4 (sum s.data.toList)).toArray⟩
theorem crc_append (s : ByteArray) (hs : s.size + 4 ≤ maxLen) (w : World) :
    Calls Try.prog 15 #[.string s] w fun e w' => e = .returned (.string (appended s)) ∧ Below w.heap.size w w' := by
  have hsb := sum_lt s.data.toList
  have hs' : s.size ≤ maxLen := by omega
  unfold maxLen at hs
  have hap : Hid (appended s = s ++ ⟨(le4 (sum s.data.toList)).toArray⟩) := hide rfl
  have hsz : (⟨(le4 (sum s.data.toList)).toArray⟩ : ByteArray).size = 4 := rfl
  go_enter Try.func15, Try.ntmps15
  go_wp2_with (first
    | (go_at_call 9; refine (crc_sum s hs' _).mono ?_; rintro e w1 ⟨rfl, hb1⟩)
    | (refine wpList_bytes_string rfl 27 9 5 _ rfl Try.underlying27 Try.underlying5 Try.underlying9 ⟨w1.heap.size, 0, none⟩ 4 4 (le4 (sum s.data.toList)) rfl rfl (le4_cell hsb) ?_))
  go_ret
  exact ⟨by rw [hap.out]; rfl, hb1.alloc hb1.size _⟩

def check (s : ByteArray) : Bool := decide (4 ≤ s.size) && ((appended (s.extract 0 (s.size - 4))).toList == s.toList)
theorem crc_check (s : ByteArray) (hs : s.size ≤ maxLen) (w : World) :
    Calls Try.prog 17 #[.string s] w fun e w' => e = .returned (.bool (check s)) ∧ Below w.heap.size w w' := by
  by_cases h4 : 4 ≤ s.size
  · have hn : (((s.size - 4 : Nat) : Int)) = (s.size : Int) - 4 := by omega
    obtain ⟨n, hn'⟩ : ∃ n, n = s.size - 4 := ⟨_, rfl⟩
    have hsz : (s.extract 0 n).size + 4 ≤ maxLen := by simp [ByteArray.size_extract]; omega
    have hck : check s = ((appended (s.extract 0 n)).toList == s.toList) := by unfold check; rw [hn', decide_eq_true h4]; rfl
    have H := hide hck
    clear hck
    unfold maxLen at hs
    have e1 : (s.size : Int) - 4 = (n : Int) := by omega
    have h0 : decide (0 ≤ (n : Int)) = true := by simp
    clear hn hn'
    go_enter Try.func17, Try.ntmps17
    go_wp2_with (first | (go_at_call 15; refine (crc_append _ hsz _).mono ?_; rintro e w1 ⟨rfl, hb1⟩))
    go_ret
    exact ⟨by rw [H.out]; rfl, hb1⟩
  · have hck : check s = false := by unfold check; rw [decide_eq_false h4]; rfl
    have H := hide hck
    clear hck
    have h0 : decide (0 ≤ (s.size : Int) - 4) = false := by simp; omega
    unfold maxLen at hs
    go_enter Try.func17, Try.ntmps17
    go_wp2
    go_ret
    exact ⟨by rw [H.out]; rfl, Below.refl _ _⟩

theorem crc_flip_range (s : ByteArray) (at_ len mask : Int) (h : len < 1 ∨ 32 < len ∨ at_ < 0 ∨ mask < 0 ∨ 2 ^ len.toNat ≤ mask) (w : World) :
    Calls Try.prog 12 #[.string s, .int .i64 at_, .int .i64 len, .int .i64 mask] w fun e w' => e = .returned (.tuple #[.string ByteArray.empty, .int .i64 2]) ∧ Below w.heap.size w w' := by
  by_cases c1 : len < 1
  · go_enter Try.func12, Try.ntmps12
    go_wp2
    go_ret2
    exact ⟨rfl, Below.refl _ _⟩
  by_cases c2 : 32 < len
  · go_enter Try.func12, Try.ntmps12
    go_wp2
    go_ret2
    exact ⟨rfl, Below.refl _ _⟩
  by_cases c3 : at_ < 0
  · go_enter Try.func12, Try.ntmps12
    go_wp2
    go_ret2
    exact ⟨rfl, Below.refl _ _⟩
  by_cases c4 : mask < 0
  · go_enter Try.func12, Try.ntmps12
    go_wp2
    go_ret2
    exact ⟨rfl, Below.refl _ _⟩
  obtain ⟨p, hp, hP, hp1, hp2⟩ := pow_at len.toNat (by omega)
  have c5 : p ≤ mask := by rw [hP.out]; omega
  clear h
  go_enter Try.func12, Try.ntmps12
  go_wp2
  go_ret2
  exact ⟨rfl, Below.refl _ _⟩

theorem crc_flip_short (s : ByteArray) (hs : s.size ≤ 1048576) (at_ len mask : Int) (c1 : 1 ≤ len) (c2 : len ≤ 32) (c3 : 0 ≤ at_) (c4 : 0 ≤ mask) (c5 : mask < 2 ^ len.toNat) (h : 8 * s.size - len < at_) (w : World) :
    Calls Try.prog 12 #[.string s, .int .i64 at_, .int .i64 len, .int .i64 mask] w fun e w' => e = .returned (.tuple #[.string ByteArray.empty, .int .i64 4]) ∧ Below w.heap.size w w' := by
  obtain ⟨p, hp, hP, hp1, hp2⟩ := pow_at len.toNat (by omega)
  have c5 : mask < p := by rw [hP.out]; exact c5
  go_enter Try.func12, Try.ntmps12
  go_wp2
  go_ret2
  exact ⟨rfl, Below.refl _ _⟩

set_option maxRecDepth 100000 in
theorem crc_flip_ok (s : ByteArray) (hs : s.size ≤ 1048576) (at_ len mask : Nat) (c1 : 1 ≤ len) (c2 : len ≤ 32) (c5 : mask < 2 ^ len) (h : at_ + len ≤ 8 * s.size) (w : World) :
    Calls Try.prog 12 #[.string s, .int .i64 at_, .int .i64 len, .int .i64 mask] w fun e w' => e = .returned (.tuple #[.string ⟨(flipTo s.data.toList at_ mask len).toArray⟩, .int .i64 0]) ∧ Below w.heap.size w w' := by
  obtain ⟨p, hp, hP, hp1, hp2⟩ := pow_at len (by omega)
  have c5' : (mask : Int) < p := by rw [hP.out]; exact_mod_cast c5
  have hat : (at_ : Int) ≤ 8 * s.size - len := by omega
  go_enter Try.func12, Try.ntmps12
  go_wp2_with (refine wpList_string_bytes rfl 9 27 5 _ rfl Try.underlying9 Try.underlying27 Try.underlying5 s rfl ?_; intro cap hcap)
  clear c5 hp hP hp1 hp2 c5'
  go_loopw [43] (fun i wr => ∃ k : Nat, k ≤ len ∧ i = .int .i64 k ∧ wr.heap[w.heap.size]? = some (.cells (brow (flipTo s.data.toList at_ mask k) cap) 5 (cap, cap + 1)) ∧ Below w.heap.size w wr) (fun i _ => len - (intOf i).toNat)
  case atStart => exact ⟨0, by omega, rfl, (by rw [heap_drew, heap_alloc_new, bytesRow_eq]; rfl), (below1 _).drew⟩
  case round =>
    obtain ⟨k, hk, rfl, hg, hb⟩ := hrel
    by_cases hlt : k < len
    · obtain ⟨b, hbit⟩ : ∃ b, b = mask / 2 ^ k % 2 := ⟨_, rfl⟩
      have eb : bits .and .i64 ((mask : Int) / 2 ^ k) 1 = (b : Int) := by
        rw [i64_and1, hbit]
        have : ((mask : Int) / 2 ^ k) = ((mask / 2 ^ k : Nat) : Int) := by simp
        rw [this]; omega
      have hb1 : b ≤ 1 := by omega
      have HB := hide hbit
      clear hbit
      obtain ⟨pp, hpp⟩ : ∃ pp, pp = (at_ + k) / 8 := ⟨_, rfl⟩
      obtain ⟨qq, hqq⟩ : ∃ qq, qq = (at_ + k) % 8 := ⟨_, rfl⟩
      have hpl : pp < s.size := by omega
      have hql : qq < 8 := by omega
      have e53 : IntKind.i64.wrap ((at_ : Int) + (k : Int)) = (at_ : Int) + (k : Int) := IntWalk.i64_in _ (by omega)
      have e54 : IntKind.i64.wrap (((at_ : Int) + (k : Int)).tdiv 8) = (pp : Int) := by rw [IntWalk.i64_quo _ _ (by omega)]; omega
      have e61 : (((at_ : Int) + (k : Int)).tmod 8) = (qq : Int) := by rw [IntWalk.rem_in _ _ (by omega)]; omega
      obtain ⟨sh, hsh⟩ : ∃ sh, sh = b * 2 ^ qq := ⟨_, rfl⟩
      have hshb : sh < 256 := by
        have h1 : 2 ^ qq ≤ 2 ^ 7 := Nat.pow_le_pow_right (by decide) (by omega)
        have h2 : sh ≤ 1 * 2 ^ qq := by rw [hsh]; exact Nat.mul_le_mul_right _ hb1
        omega
      have e62 : IntKind.i64.wrap ((b : Int) * 2 ^ qq) = (sh : Int) := by
        have : (b : Int) * 2 ^ qq = (sh : Int) := by rw [hsh]; simp
        rw [this]; exact IntWalk.i64_in _ (by omega)
      have e62' : IntKind.i64.wrap ((b : Int) * 2 ^ min qq 64) = (sh : Int) := by rw [Nat.min_eq_left (by omega)]; exact e62
      have e63 : IntKind.u8.wrap (sh : Int) = (sh : Int) := IntWalk.u8_in _ (by omega)
      have HL : (flipTo s.data.toList at_ mask k).length = s.size := by rw [flipTo_length]; rfl
      obtain ⟨c, hc⟩ : ∃ c, c = (flipTo s.data.toList at_ mask k)[pp]'(by omega) := ⟨_, rfl⟩
      have hcell : wr.cell? ⟨w.heap.size, pp, none⟩ = some (.int .u8 ((c.toNat : Nat) : Int)) := by
        rw [cell_of_row wr _ _ _ _ _ hg, brow_get (by omega), hc]
      have hfz : wr.frozen? ⟨w.heap.size, pp, none⟩ = false := frozen_marked hg (by omega)
      have hcb : c.toNat < 256 := c.toNat_lt
      obtain ⟨d, hd⟩ : ∃ d : UInt8, d = c ^^^ UInt8.ofNat sh := ⟨_, rfl⟩
      have e64 : bits .xor .u8 ((c.toNat : Nat) : Int) (sh : Int) = ((d.toNat : Nat) : Int) := by
        rw [u8_xor_nat _ _ hcb hshb, hd]; simp [Nat.mod_eq_of_lt hshb]
      have hset : (flipTo s.data.toList at_ mask k).set pp d = flipTo s.data.toList at_ mask (k + 1) := by
        simp only [flipTo]
        rw [← hpp, ← hqq, hd, hc, hsh, HB.out, List.getD_eq_getElem?_getD, List.getElem?_eq_getElem (by omega)]; rfl
      have hset' := setCell_row (i := pp) hg (.int .u8 ((d.toNat : Nat) : Int))
      rw [brow_set (by omega), hset] at hset'
      have HG := hide hset'
      clear hset' hset hpp hqq hsh hc hd hg HB
      have hpl' : (pp : Int) < s.size := by omega
      clear HL
      go_wp2
      go_region
      go_wp2
      go_roundw
      case rel => exact ⟨k + 1, by omega, by go_num, HG.out, by first | exact (hb.setCell (by simp) _).drew | exact hb.drew.setCell (by simp) _⟩
      case measure => simp [intOf]; omega
    · have e : k = len := by omega
      rw [e] at hg
      clear e
      have HL : (flipTo s.data.toList at_ mask len).length = s.size := by rw [flipTo_length]; rfl
      go_wp2_with (refine wpList_bytes_string rfl 27 9 5 _ rfl Try.underlying27 Try.underlying5 Try.underlying9 ⟨w.heap.size, 0, none⟩ s.size cap (flipTo s.data.toList at_ mask len) rfl HL (brow_cells hg) ?_)
      go_ret2
      exact ⟨rfl, hb⟩
end Go.Proofs.Ytmpdgplgjclcoaa
