/- The walks of the reference of the checksum. -/
import Derived.Test.YtmpdgplgjclcoaaCrcWalkB
namespace Go.Proofs.Ytmpdgplgjclcoaa
open Go.RowKit Crc

theorem utc_in (n low high : Int) (w : World) :
    Calls Try.prog 20 #[.int .i64 n, .int .i64 low, .int .i64 high] w fun e w' => e = .returned (.bool (decide (low ≤ n ∧ n ≤ high))) ∧ w = w' := by
  by_cases h1 : low ≤ n
  · by_cases h2 : n ≤ high
    all_goals
      go_enter Try.func20, Try.ntmps20
      go_wp2
      go_ret
      exact ⟨by simp [*] <;> omega, rfl⟩
  · go_enter Try.func20, Try.ntmps20
    go_wp2
    go_ret
    exact ⟨by simp [*] <;> omega, rfl⟩

set_option maxRecDepth 100000 in
theorem ref_run (n : Nat) (hn : n < 4294967296) (s : ByteArray) (hs : s.size ≤ maxLen) (w : World) :
    Calls Try.prog 21 #[.int .i64 n, .string s] w fun e w' => e = .returned (.int .i64 ((run n s.data.toList : Nat) : Int)) ∧ w = w' := by
  unfold maxLen at hs
  go_enter Try.func21, Try.ntmps21
  go_wp2
  go_loop [0, 5] (fun r i => ∃ (k : Nat) (q : Nat), k ≤ s.size ∧ i = .int .i64 k ∧ r = .int .i64 q ∧ Hid (q = run n (s.data.toList.take k))) (fun _ i => s.size - (intOf i).toNat)
  case atStart => exact ⟨0, n, Nat.zero_le _, rfl, rfl, hide (by rw [List.take_zero, run_nil])⟩
  case round =>
    obtain ⟨k, q, hk, rfl, rfl, hq⟩ := hrel
    by_cases hlt : k < s.size
    · have hqb : q < 4294967296 := by rw [hq.out]; exact run_lt _ hn
      have hnext : run n (s.data.toList.take (k + 1)) = bsteps 8 (q ^^^ s[k].toNat) := by rw [take_snoc s k hlt, run_snoc, ← hq.out]
      have HN := hide hnext
      clear hnext hq
      have hcb : s[k].toNat < 256 := s[k].toNat_lt
      obtain ⟨x, hx⟩ : ∃ x, x = q ^^^ s[k].toNat := ⟨_, rfl⟩
      have e1 : bits .xor .i64 (q : Int) ((s[k].toNat : Nat) : Int) = (x : Int) := by rw [hx]; exact i64_xor_nat _ _ (by omega) (by omega)
      have hxb : x < 4294967296 := by rw [hx]; exact xor_lt 32 hqb (by omega)
      rw [← hx] at HN
      clear hx
      go_wp2
      go_loop [0, 6] (fun r j => ∃ m : Nat, m ≤ 8 ∧ j = .int .i64 m ∧ r = .int .i64 ((bsteps m x : Nat) : Int)) (fun _ j => 8 - (intOf j).toNat)
      case atStart => exact ⟨0, by omega, rfl, rfl⟩
      case round =>
        obtain ⟨m, hm, rfl, rfl⟩ := hrel
        by_cases hm8 : m < 8
        · go_wp2
          · go_round
            case rel =>
              refine ⟨m + 1, by omega, by go_num, ?_⟩
              rw [bit_yes (by assumption) (bsteps_lt m hxb)]
              rfl
            case measure => simp [intOf]; omega
          · go_round
            case rel =>
              refine ⟨m + 1, by omega, by go_num, ?_⟩
              rw [bit_no (by assumption)]
              rfl
            case measure => simp [intOf]; omega
        · have e8 : m = 8 := by omega
          have HM := hide e8
          clear e8
          go_wp2
          go_round
          case rel => exact ⟨k + 1, bsteps 8 x, by omega, by go_num, by rw [HM.out], hide HN.out.symm⟩
          case measure => simp [intOf]; omega
    · have hq2 : q = run n s.data.toList := by
        rw [hq.out, List.take_of_length_le (by simp; omega)]
      clear hq
      have H2 := hide hq2
      clear hq2
      go_wp2
      go_ret
      exact ⟨by rw [← H2.out]; rfl, rfl⟩

theorem ref_sum (s : ByteArray) (hs : s.size ≤ maxLen) (w : World) :
    Calls Try.prog 14 #[.string s] w fun e w' => e = .returned (.int .i64 ((sum s.data.toList : Nat) : Int)) ∧ w = w' := by
  have hb : run all s.data.toList < 4294967296 := run_lt _ all_lt
  have e1 : bits .xor .i64 ((run all s.data.toList : Nat) : Int) 4294967295 = ((sum s.data.toList : Nat) : Int) := by
    rw [show (4294967295 : Int) = ((4294967295 : Nat) : Int) from rfl, i64_xor_nat _ _ (by omega) (by omega)]; unfold sum upd; rw [Nat.zero_xor]; rfl
  go_enter Try.func14, Try.ntmps14
  go_wp2_with (first | (go_at_call 21; refine (ref_run 4294967295 (by omega) s hs _).mono ?_; rintro e w1 ⟨rfl, rfl⟩))
  go_ret
  exact ⟨by rw [← e1]; rfl, rfl⟩

theorem ref_update_bad (n : Int) (s : ByteArray) (hn : n < 0 ∨ 4294967295 < n) (w : World) :
    Calls Try.prog 11 #[.int .i64 n, .string s] w fun e w' => e = .returned (.int .i64 0) ∧ w = w' := by
  have hd : decide (0 ≤ n ∧ n ≤ 4294967295) = false := by simp; omega
  go_enter Try.func11, Try.ntmps11
  go_wp2_with (first | (go_at_call 20; refine (utc_in _ _ _ _).mono ?_; rw [hd]; rintro e w1 ⟨rfl, rfl⟩))
  go_ret
  exact ⟨rfl, rfl⟩
theorem ref_update (n : Nat) (hn : n < 4294967296) (s : ByteArray) (hs : s.size ≤ maxLen) (w : World) :
    Calls Try.prog 11 #[.int .i64 n, .string s] w fun e w' => e = .returned (.int .i64 ((upd n s.data.toList : Nat) : Int)) ∧ w = w' := by
  have hd : decide (0 ≤ (n : Int) ∧ (n : Int) ≤ 4294967295) = true := by simp; omega
  obtain ⟨r0, hr0⟩ : ∃ r0, r0 = n ^^^ all := ⟨_, rfl⟩
  have ex : bits .xor .i64 (n : Int) 4294967295 = (r0 : Int) := by rw [hr0]; exact i64_xor_nat n 4294967295 (by omega) (by omega)
  have hb0 : r0 < 4294967296 := by rw [hr0]; exact xor_lt 32 hn all_lt
  have hb : run r0 s.data.toList < 4294967296 := run_lt _ hb0
  have e1 : bits .xor .i64 ((run r0 s.data.toList : Nat) : Int) 4294967295 = ((upd n s.data.toList : Nat) : Int) := by
    rw [show (4294967295 : Int) = ((4294967295 : Nat) : Int) from rfl, i64_xor_nat _ _ (by omega) (by omega)]; unfold upd; rw [hr0]; rfl
  clear hr0
  go_enter Try.func11, Try.ntmps11
  go_wp2_with (first
    | (go_at_call 20; refine (utc_in _ _ _ _).mono ?_; rw [hd]; rintro e w1 ⟨rfl, rfl⟩)
    | (go_at_call 21; refine (ref_run r0 hb0 s hs _).mono ?_; rintro e w1 ⟨rfl, rfl⟩))
  go_ret
  exact ⟨rfl, rfl⟩

theorem ref_append (s : ByteArray) (hs : s.size + 4 ≤ maxLen) (w : World) :
    Calls Try.prog 16 #[.string s] w fun e w' => e = .returned (.string (appended s)) ∧ Below w.heap.size w w' := by
  have hsb := sum_lt s.data.toList
  have hs' : s.size ≤ maxLen := by omega
  unfold maxLen at hs
  have hap : Hid (appended s = s ++ ⟨(le4 (sum s.data.toList)).toArray⟩) := hide rfl
  have hsz : (⟨(le4 (sum s.data.toList)).toArray⟩ : ByteArray).size = 4 := rfl
  go_enter Try.func16, Try.ntmps16
  go_wp2_with (first
    | (go_at_call 14; refine (ref_sum s hs' _).mono ?_; rintro e w1 ⟨rfl, rfl⟩)
    | (refine wpList_bytes_string rfl 27 9 5 _ rfl Try.underlying27 Try.underlying5 Try.underlying9 ⟨w.heap.size, 0, none⟩ 4 4 (le4 (sum s.data.toList)) rfl rfl (le4_cell hsb) ?_))
  go_ret
  exact ⟨by rw [hap.out]; rfl, below1 _⟩

theorem ref_check (s : ByteArray) (hs : s.size ≤ maxLen) (w : World) :
    Calls Try.prog 18 #[.string s] w fun e w' => e = .returned (.bool (check s)) ∧ Below w.heap.size w w' := by
  by_cases h4 : 4 ≤ s.size
  · have hn : (((s.size - 4 : Nat) : Int)) = (s.size : Int) - 4 := by omega
    obtain ⟨n, hn'⟩ : ∃ n, n = s.size - 4 := ⟨_, rfl⟩
    have hsz : (s.extract 0 n).size + 4 ≤ maxLen := by simp [ByteArray.size_extract]; omega
    have hck : check s = ((appended (s.extract 0 n)).toList == s.toList) := by unfold check; rw [hn', decide_eq_true h4]; rfl
    have H := hide hck
    clear hck
    unfold maxLen at hs
    have e1 : (s.size : Int) - 4 = (n : Int) := by omega
    have h0 : decide (4 ≤ (s.size : Int)) = true := by simp; omega
    clear hn hn'
    go_enter Try.func18, Try.ntmps18
    go_wp2_with (first | (go_at_call 16; refine (ref_append _ hsz _).mono ?_; rintro e w1 ⟨rfl, hb1⟩))
    go_ret
    exact ⟨by rw [H.out]; rfl, hb1⟩
  · have hck : check s = false := by unfold check; rw [decide_eq_false h4]; rfl
    have H := hide hck
    clear hck
    have h0 : decide (4 ≤ (s.size : Int)) = false := by simp; omega
    unfold maxLen at hs
    go_enter Try.func18, Try.ntmps18
    go_wp2
    go_ret
    exact ⟨by rw [H.out]; rfl, Below.refl _ _⟩

theorem ref_flip_range (s : ByteArray) (at_ len mask : Int) (h : len < 1 ∨ 32 < len ∨ at_ < 0 ∨ mask < 0 ∨ 2 ^ len.toNat ≤ mask) (w : World) :
    Calls Try.prog 13 #[.string s, .int .i64 at_, .int .i64 len, .int .i64 mask] w fun e w' => e = .returned (.tuple #[.string ByteArray.empty, .int .i64 2]) ∧ Below w.heap.size w w' := by
  by_cases c1 : 1 ≤ len ∧ len ≤ 32
  · have hd : decide (1 ≤ len ∧ len ≤ 32) = true := by simp; omega
    by_cases c3 : at_ < 0
    · go_enter Try.func13, Try.ntmps13
      go_wp2_with (first | (go_at_call 20; refine (utc_in _ _ _ _).mono ?_; rw [hd]; rintro e w1 ⟨rfl, rfl⟩))
      go_ret2
      exact ⟨rfl, Below.refl _ _⟩
    by_cases c4 : mask < 0
    · go_enter Try.func13, Try.ntmps13
      go_wp2_with (first | (go_at_call 20; refine (utc_in _ _ _ _).mono ?_; rw [hd]; rintro e w1 ⟨rfl, rfl⟩))
      go_ret2
      exact ⟨rfl, Below.refl _ _⟩
    obtain ⟨p, hp, hP, hp1, hp2⟩ := pow_at len.toNat (by omega)
    have c5 : p ≤ mask := by rw [hP.out]; omega
    clear h
    go_enter Try.func13, Try.ntmps13
    go_wp2_with (first | (go_at_call 20; refine (utc_in _ _ _ _).mono ?_; rw [hd]; rintro e w1 ⟨rfl, rfl⟩))
    go_ret2
    exact ⟨rfl, Below.refl _ _⟩
  · have hd : decide (1 ≤ len ∧ len ≤ 32) = false := by simp; omega
    go_enter Try.func13, Try.ntmps13
    go_wp2_with (first | (go_at_call 20; refine (utc_in _ _ _ _).mono ?_; rw [hd]; rintro e w1 ⟨rfl, rfl⟩))
    go_ret2
    exact ⟨rfl, Below.refl _ _⟩

theorem ref_flip_short (s : ByteArray) (hs : s.size ≤ 1048576) (at_ len mask : Int) (c1 : 1 ≤ len) (c2 : len ≤ 32) (c3 : 0 ≤ at_) (c4 : 0 ≤ mask) (c5 : mask < 2 ^ len.toNat) (h : 8 * s.size - len < at_) (w : World) :
    Calls Try.prog 13 #[.string s, .int .i64 at_, .int .i64 len, .int .i64 mask] w fun e w' => e = .returned (.tuple #[.string ByteArray.empty, .int .i64 4]) ∧ Below w.heap.size w w' := by
  obtain ⟨p, hp, hP, hp1, hp2⟩ := pow_at len.toNat (by omega)
  have c5 : mask < p := by rw [hP.out]; exact c5
  have hd : decide (1 ≤ len ∧ len ≤ 32) = true := by simp; omega
  go_enter Try.func13, Try.ntmps13
  go_wp2_with (first | (go_at_call 20; refine (utc_in _ _ _ _).mono ?_; rw [hd]; rintro e w1 ⟨rfl, rfl⟩))
  go_ret2
  exact ⟨rfl, Below.refl _ _⟩

set_option maxRecDepth 100000 in
theorem ref_flip_ok (s : ByteArray) (hs : s.size ≤ 1048576) (at_ len mask : Nat) (c1 : 1 ≤ len) (c2 : len ≤ 32) (c5 : mask < 2 ^ len) (h : at_ + len ≤ 8 * s.size) (w : World) :
    Calls Try.prog 13 #[.string s, .int .i64 at_, .int .i64 len, .int .i64 mask] w fun e w' => e = .returned (.tuple #[.string ⟨(flipTo s.data.toList at_ mask len).toArray⟩, .int .i64 0]) ∧ Below w.heap.size w w' := by
  obtain ⟨p, hp, hP, hp1, hp2⟩ := pow_at len (by omega)
  have c5' : (mask : Int) < p := by rw [hP.out]; exact_mod_cast c5
  have hat : (at_ : Int) ≤ 8 * s.size - len := by omega
  have hd : decide (1 ≤ (len : Int) ∧ (len : Int) ≤ 32) = true := by simp; omega
  go_enter Try.func13, Try.ntmps13
  go_wp2_with (first
    | (go_at_call 20; refine (utc_in _ _ _ _).mono ?_; rw [hd]; rintro e w1 ⟨rfl, rfl⟩)
    | (refine wpList_string_bytes rfl 9 27 5 _ rfl Try.underlying9 Try.underlying27 Try.underlying5 s rfl ?_; intro cap hcap))
  clear c5 hp hP hp1 hp2 c5'
  go_loopw [11] (fun i wr => ∃ k : Nat, k ≤ len ∧ i = .int .i64 k ∧ wr.heap[w.heap.size]? = some (.cells (brow (flipTo s.data.toList at_ mask k) cap) 5 (cap, cap + 1)) ∧ Below w.heap.size w wr) (fun i _ => len - (intOf i).toNat)
  case atStart => exact ⟨0, by omega, rfl, (by rw [heap_drew, heap_alloc_new, bytesRow_eq]; rfl), (below1 _).drew⟩
  case round =>
    obtain ⟨k, hk, rfl, hg, hb⟩ := hrel
    by_cases hlt : k < len
    · obtain ⟨b, hbit⟩ : ∃ b, b = mask / 2 ^ k % 2 := ⟨_, rfl⟩
      have eb : bits .and .i64 ((mask : Int) / 2 ^ k) 1 = (b : Int) := by
        rw [i64_and1, hbit]
        have : ((mask : Int) / 2 ^ k) = ((mask / 2 ^ k : Nat) : Int) := by simp
        rw [this]; omega
      have hb1 : b ≤ 1 := by omega
      have HB := hide hbit
      clear hbit
      by_cases hone : b = 1
      · have hT : ((b : Int) == 1) = true := by rw [beq_iff_eq]; omega
        rw [hone] at HB
        clear hone
        obtain ⟨pp, hpp⟩ : ∃ pp, pp = (at_ + k) / 8 := ⟨_, rfl⟩
        obtain ⟨qq, hqq⟩ : ∃ qq, qq = (at_ + k) % 8 := ⟨_, rfl⟩
        have hpl : pp < s.size := by omega
        have hql : qq < 8 := by omega
        have e53 : IntKind.i64.wrap ((at_ : Int) + (k : Int)) = (at_ : Int) + (k : Int) := IntWalk.i64_in _ (by omega)
        have e54 : ((at_ : Int) + (k : Int)) / 8 = (pp : Int) := by omega
        have e61 : ((at_ : Int) + (k : Int)) % 8 = (qq : Int) := by omega
        obtain ⟨sh, hsh⟩ : ∃ sh, sh = 2 ^ qq := ⟨_, rfl⟩
        have hshb : sh < 256 := by
          have h1 : 2 ^ qq ≤ 2 ^ 7 := Nat.pow_le_pow_right (by decide) (by omega)
          omega
        have e62 : IntKind.u8.wrap ((2 : Int) ^ qq) = (sh : Int) := by
          have : (2 : Int) ^ qq = (sh : Int) := by rw [hsh]; simp
          rw [this]; exact IntWalk.u8_in _ (by omega)
        have HL : (flipTo s.data.toList at_ mask k).length = s.size := by rw [flipTo_length]; rfl
        obtain ⟨c, hc⟩ : ∃ c, c = (flipTo s.data.toList at_ mask k)[pp]'(by omega) := ⟨_, rfl⟩
        have hcell : wr.cell? ⟨w.heap.size, pp, none⟩ = some (.int .u8 ((c.toNat : Nat) : Int)) := by
          rw [cell_of_row wr _ _ _ _ _ hg, brow_get (by omega), hc]
        have hfz : wr.frozen? ⟨w.heap.size, pp, none⟩ = false := frozen_marked hg (by omega)
        have hcb : c.toNat < 256 := c.toNat_lt
        obtain ⟨d, hd⟩ : ∃ d : UInt8, d = c ^^^ UInt8.ofNat sh := ⟨_, rfl⟩
        have e64 : bits .xor .u8 ((c.toNat : Nat) : Int) (sh : Int) = ((d.toNat : Nat) : Int) := by
          rw [u8_xor_nat _ _ hcb hshb, hd]; simp [Nat.mod_eq_of_lt hshb]
        have hset : (flipTo s.data.toList at_ mask k).set pp d = flipTo s.data.toList at_ mask (k + 1) := by
          simp only [flipTo]
          rw [← hpp, ← hqq, ← HB.out, Nat.one_mul, ← hsh, hd, hc, List.getD_eq_getElem?_getD, List.getElem?_eq_getElem (by omega)]; rfl
        have hset' := setCell_row (i := pp) hg (.int .u8 ((d.toNat : Nat) : Int))
        rw [brow_set (by omega), hset] at hset'
        have HG := hide hset'
        clear hset' hset hqq hsh hc hd hg HB
        have hpl' : (pp : Int) < s.size := by omega
        clear HL hpp
        go_wp2
        go_roundw
        case rel => exact ⟨k + 1, by omega, by go_num, HG.out, hb.setCell (by simp) _⟩
        case measure => simp [intOf]; omega
      · have hT : ((b : Int) == 1) = false := by rw [beq_eq_false_iff_ne]; omega
        have hz : b = 0 := by omega
        rw [hz] at HB
        have hset : flipTo s.data.toList at_ mask (k + 1) = flipTo s.data.toList at_ mask k := by
          simp only [flipTo]
          rw [← HB.out, Nat.zero_mul]
          apply List.ext_getElem?
          intro i
          rw [List.getElem?_set]
          split
          · rename_i hi
            subst hi
            split
            · rw [List.getD_eq_getElem?_getD, List.getElem?_eq_getElem (by assumption)]; simp
            · rw [List.getElem?_eq_none (by omega)]
          · rfl
        have HG := hide hset
        clear hset hz hone HB
        go_wp2
        go_roundw
        case rel => exact ⟨k + 1, by omega, by go_num, by rw [HG.out]; exact hg, hb⟩
        case measure => simp [intOf]; omega
    · have e : k = len := by omega
      rw [e] at hg
      clear e
      have HL : (flipTo s.data.toList at_ mask len).length = s.size := by rw [flipTo_length]; rfl
      go_wp2_with (refine wpList_bytes_string rfl 27 9 5 _ rfl Try.underlying27 Try.underlying5 Try.underlying9 ⟨w.heap.size, 0, none⟩ s.size cap (flipTo s.data.toList at_ mask len) rfl HL (brow_cells hg) ?_)
      go_ret2
      exact ⟨rfl, hb⟩
end Go.Proofs.Ytmpdgplgjclcoaa
