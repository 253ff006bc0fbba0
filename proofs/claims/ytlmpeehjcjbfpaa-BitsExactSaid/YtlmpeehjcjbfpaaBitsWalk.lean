/- The walks of package bits: in, shift, Pair, SetPair, Fits, Wrap, Sign. -/
import Derived.Test.YtlmpeehjcjbfpaaProg
import Derived.Test.YtlmpeehjcjbfpaaOwn
import Derived.Test.YtlmpeehjcjbfpaaLibQ
import Derived.Test.YtlmpeehjcjbfpaaBitsMath
namespace Go.Proofs.Ytlmpeehjcjbfpaa
open Go.RowKit Bits
set_option linter.unusedVariables false

theorem i64_andNot_nat (a b : Nat) (ha : a < 2 ^ 63) (hb : b < 2 ^ 63) : bits .andNot .i64 (a : Int) (b : Int) = ((a ^^^ (a &&& b) : Nat) : Int) := by
  have ha' : a % 2 ^ 64 = a := Nat.mod_eq_of_lt (by omega)
  have hb' : b % 2 ^ 64 = b := Nat.mod_eq_of_lt (by omega)
  show IntKind.i64.wrap ((BitVec.ofInt 64 (a : Int) &&& ~~~ BitVec.ofInt 64 (b : Int)).toNat : Nat) = _
  have e : (BitVec.ofInt 64 (a : Int) &&& ~~~ BitVec.ofInt 64 (b : Int)) = BitVec.ofInt 64 (a : Int) ^^^ (BitVec.ofInt 64 (a : Int) &&& BitVec.ofInt 64 (b : Int)) := by
    generalize BitVec.ofInt 64 (a : Int) = x
    generalize BitVec.ofInt 64 (b : Int) = y
    apply BitVec.eq_of_getLsbD_eq
    intro i hi
    simp only [BitVec.getLsbD_and, BitVec.getLsbD_not, BitVec.getLsbD_xor, hi]
    cases x.getLsbD i <;> cases y.getLsbD i <;> rfl
  rw [e, BitVec.ofInt_natCast, BitVec.ofInt_natCast, BitVec.toNat_xor, BitVec.toNat_and, BitVec.toNat_ofNat, BitVec.toNat_ofNat, ha', hb']
  refine wraps_i64 _ (Int.natCast_nonneg _) ?_
  have h1 := Nat.and_lt_two_pow a hb
  have := Nat.xor_lt_two_pow ha h1
  exact_mod_cast this

theorem bits_in_yes (n low high : Int) (h : low ≤ n ∧ n ≤ high) (w : World) :
    Calls Try.prog 23 #[.int .i64 n, .int .i64 low, .int .i64 high] w fun e w' => e = .returned (.bool true) ∧ w = w' := by
  obtain ⟨h1, h2⟩ := h
  go_enter Try.func23, Try.ntmps23
  go_wp2
  go_ret
  exact ⟨rfl, rfl⟩
theorem bits_in_no (n low high : Int) (h : n < low ∨ high < n) (w : World) :
    Calls Try.prog 23 #[.int .i64 n, .int .i64 low, .int .i64 high] w fun e w' => e = .returned (.bool false) ∧ w = w' := by
  by_cases h1 : n < low
  · clear h
    go_enter Try.func23, Try.ntmps23
    go_wp2
    go_ret
    exact ⟨rfl, rfl⟩
  · have h2 : high < n := by omega
    have h3 : low ≤ n := by omega
    have d : decide (n ≤ high) = false := by simp; omega
    clear h h1
    go_enter Try.func23, Try.ntmps23
    go_wp2
    go_ret
    exact ⟨rfl, rfl⟩

theorem bits_shift_ok (word i : Int) (h1 : 0 ≤ word) (h2 : word ≤ 4294967295) (h3 : 0 ≤ i) (h4 : i ≤ 15) (w : World) :
    Calls Try.prog 22 #[.int .i64 word, .int .i64 i] w fun e w' => e = .returned (.tuple #[.int .i64 (30 - 2 * i), .bool true]) ∧ w = w' := by
  go_enter Try.func22, Try.ntmps22
  go_wp2_with (first
    | (go_at_call 23; (with_reducible refine (bits_in_yes _ _ _ ?_ _).mono ?_); (focus omega); rintro e w1 ⟨rfl, rfl⟩))
  go_ret2
  exact ⟨rfl, rfl⟩
theorem bits_shift_bad (word i : Int) (h : word < 0 ∨ 4294967295 < word ∨ i < 0 ∨ 15 < i) (w : World) :
    Calls Try.prog 22 #[.int .i64 word, .int .i64 i] w fun e w' => e = .returned (.tuple #[.int .i64 (wrap64 (30 - wrap64 (2 * i))), .bool false]) ∧ w = w' := by
  have e1 : IntKind.i64.wrap (2 * i) = wrap64 (2 * i) := IntWalk.i64_left _
  have e2 : IntKind.i64.wrap (30 - wrap64 (2 * i)) = wrap64 (30 - wrap64 (2 * i)) := IntWalk.i64_left _
  generalize hx : wrap64 (2 * i) = x at *
  generalize hy : wrap64 (30 - x) = y at *
  have HX := hide hx
  have HY := hide hy
  clear hx hy
  by_cases c : 0 ≤ word ∧ word ≤ 4294967295
  · obtain ⟨c1, c2⟩ := c
    have c3 : i < 0 ∨ 15 < i := by omega
    clear h
    go_enter Try.func22, Try.ntmps22
    go_wp2_with (first
      | (go_at_call 23; (with_reducible refine (bits_in_yes _ _ _ ?_ _).mono ?_); (focus omega); rintro e w1 ⟨rfl, rfl⟩)
      | (go_at_call 23; (with_reducible refine (bits_in_no _ _ _ ?_ _).mono ?_); (focus omega); rintro e w1 ⟨rfl, rfl⟩))
    go_ret2
    exact ⟨rfl, rfl⟩
  · have c3 : word < 0 ∨ 4294967295 < word := by omega
    clear h c
    go_enter Try.func22, Try.ntmps22
    go_wp2_with (first
      | (go_at_call 23; (with_reducible refine (bits_in_no _ _ _ ?_ _).mono ?_); (focus omega); rintro e w1 ⟨rfl, rfl⟩))
    go_ret2
    exact ⟨rfl, rfl⟩

theorem bits_pair_bad (word i : Int) (h : word < 0 ∨ 4294967295 < word ∨ i < 0 ∨ 15 < i) (w : World) :
    Calls Try.prog 7 #[.int .i64 word, .int .i64 i] w fun e w' => e = .returned (.tuple #[.int .i64 0, .int .i64 2]) ∧ w = w' := by
  go_enter Try.func7, Try.ntmps7
  go_wp2_with (first
    | (go_at_call 22; refine (bits_shift_bad word i h _).mono ?_; rintro e w1 ⟨rfl, rfl⟩))
  go_ret2
  exact ⟨rfl, rfl⟩
theorem bits_pair_ok (word i : Nat) (h1 : word ≤ 4294967295) (h2 : i ≤ 15) (w : World) :
    Calls Try.prog 7 #[.int .i64 word, .int .i64 i] w fun e w' => e = .returned (.tuple #[.int .i64 ((pairN word (30 - 2 * i) : Nat) : Int), .int .i64 0]) ∧ w = w' := by
  obtain ⟨t, ht⟩ : ∃ t : Nat, t = 30 - 2 * i := ⟨_, rfl⟩
  have e0 : (30 : Int) - 2 * (i : Int) = (t : Int) := by omega
  have e1 : bits .and .i64 ((word : Int) / 2 ^ t) 3 = ((pairN word t : Nat) : Int) := by
    rw [i64_and3]
    have : ((word : Int) / 2 ^ t) = ((word / 2 ^ t : Nat) : Int) := by simp
    rw [this]; unfold pairN; omega
  have q := bits_shift_ok (word : Int) (i : Int) (by omega) (by omega) (by omega) (by omega)
  rw [e0] at q
  rw [← ht]
  have ht2 : t ≤ 30 := by omega
  clear ht e0
  have Q := hide q
  clear q
  go_enter Try.func7, Try.ntmps7
  go_wp2_with (first
    | (go_at_call 22; refine (Q.out _).mono ?_; rintro e w1 ⟨rfl, rfl⟩))
  go_ret2
  exact ⟨rfl, rfl⟩

theorem bits_setpair_bad (word i v : Int) (h : word < 0 ∨ 4294967295 < word ∨ i < 0 ∨ 15 < i ∨ v < 0 ∨ 3 < v) (w : World) :
    Calls Try.prog 8 #[.int .i64 word, .int .i64 i, .int .i64 v] w fun e w' => e = .returned (.tuple #[.int .i64 0, .int .i64 2]) ∧ w = w' := by
  by_cases c : word < 0 ∨ 4294967295 < word ∨ i < 0 ∨ 15 < i
  · clear h
    go_enter Try.func8, Try.ntmps8
    go_wp2_with (first
      | (go_at_call 22; refine (bits_shift_bad word i c _).mono ?_; rintro e w1 ⟨rfl, rfl⟩))
    go_ret2
    exact ⟨rfl, rfl⟩
  · have hv : v < 0 ∨ 3 < v := by omega
    have c1 : 0 ≤ word := by omega
    have c2 : word ≤ 4294967295 := by omega
    have c3 : 0 ≤ i := by omega
    have c4 : i ≤ 15 := by omega
    clear h c
    go_enter Try.func8, Try.ntmps8
    go_wp2_with (first
      | (go_at_call 22; refine (bits_shift_ok word i c1 c2 c3 c4 _).mono ?_; rintro e w1 ⟨rfl, rfl⟩)
      | (go_at_call 23; refine (bits_in_no v 0 3 hv _).mono ?_; rintro e w1 ⟨rfl, rfl⟩))
    go_ret2
    exact ⟨rfl, rfl⟩
theorem bits_setpair_ok (word i v : Nat) (h1 : word ≤ 4294967295) (h2 : i ≤ 15) (h3 : v ≤ 3) (w : World) :
    Calls Try.prog 8 #[.int .i64 word, .int .i64 i, .int .i64 v] w fun e w' => e = .returned (.tuple #[.int .i64 ((setN word (30 - 2 * i) v : Nat) : Int), .int .i64 0]) ∧ Below w.heap.size w w' := by
  obtain ⟨t, ht⟩ : ∃ t : Nat, t = 30 - 2 * i := ⟨_, rfl⟩
  have e0 : (30 : Int) - 2 * (i : Int) = (t : Int) := by omega
  have q := bits_shift_ok (word : Int) (i : Int) (by omega) (by omega) (by omega) (by omega)
  rw [e0] at q
  rw [← ht]
  have ht2 : t ≤ 30 := by omega
  clear ht e0
  have Q := hide q
  clear q
  have hp : 2 ^ t ≤ 2 ^ 30 := Nat.pow_le_pow_right (by decide) ht2
  obtain ⟨m, hm⟩ : ∃ m, m = 3 * 2 ^ t := ⟨_, rfl⟩
  obtain ⟨y, hy⟩ : ∃ y, y = v * 2 ^ t := ⟨_, rfl⟩
  have hml : m < 2 ^ 63 := by omega
  have hyl : y < 2 ^ 63 := by
    have : v * 2 ^ t ≤ 3 * 2 ^ t := Nat.mul_le_mul_right _ h3
    omega
  have em : wrap64 (3 * 2 ^ t) = (m : Int) := by
    have : (3 : Int) * 2 ^ t = (m : Int) := by rw [hm]; simp
    rw [this]; exact IntWalk.wrap64_in _ (by omega)
  have ey : wrap64 ((v : Int) * 2 ^ t) = (y : Int) := by
    have : (v : Int) * 2 ^ t = (y : Int) := by rw [hy]; simp
    rw [this]; exact IntWalk.wrap64_in _ (by omega)
  obtain ⟨x, hx⟩ : ∃ x, x = word ^^^ (word &&& m) := ⟨_, rfl⟩
  have hxl : x < 2 ^ 63 := by rw [hx]; exact Nat.xor_lt_two_pow (by omega) (Nat.and_lt_two_pow _ hml)
  have e1 : bits .andNot .i64 (word : Int) (m : Int) = (x : Int) := by rw [hx]; exact i64_andNot_nat _ _ (by omega) hml
  have e2 : bits .or .i64 (x : Int) (y : Int) = ((setN word t v : Nat) : Int) := by
    rw [i64_or_nat _ _ hxl hyl, hx, hy, hm, setN_bits _ _ _ (by omega)]
  have hv0 : (0 : Int) ≤ (v : Int) ∧ (v : Int) ≤ 3 := by omega
  have em' : IntKind.i64.wrap (3 * 2 ^ t) = (m : Int) := (IntWalk.i64_left _).trans em
  have ey' : IntKind.i64.wrap ((v : Int) * 2 ^ t) = (y : Int) := (IntWalk.i64_left _).trans ey
  have et : min t 64 = t := by omega
  clear hx hy hm
  go_enter Try.func8, Try.ntmps8
  go_wp2_with (first
    | (go_at_call 22; refine (Q.out _).mono ?_; rintro e w1 ⟨rfl, rfl⟩)
    | (go_at_call 23; refine (bits_in_yes (v : Int) 0 3 hv0 _).mono ?_; rintro e w1 ⟨rfl, rfl⟩))
  refine wp_region_grown (by kernel_rfl) (by kernel_rfl) ?_
  repeat (go_big_quiet_step (fail))
  refine wpQuiet_nil ?_
  intro w2 hb2
  go_wp2
  go_ret2
  exact ⟨rfl, hb2⟩
end Go.Proofs.Ytlmpeehjcjbfpaa
