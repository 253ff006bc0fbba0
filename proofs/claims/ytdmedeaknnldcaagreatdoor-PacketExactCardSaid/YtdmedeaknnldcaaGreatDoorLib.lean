/- General lemmas of our own, over any program: bit operations of int, big arrays, small helpers. -/
import Derived.WalkKit
import Derived.WalkSpells
import Derived.WalkLawsBesides
import Derived.Handy
namespace Go.Proofs.YtdmedeaknnldcaaGreatDoor
open Go.RowKit

/-! ### Bits of int (64 bits), at numbers that are not negative -/
theorem wraps_i64 (n : Int) (h0 : 0 ≤ n) (h1 : n < 2 ^ 63) : IntKind.i64.wrap n = n := by rw [IntKind.wrap_i64]; omega
theorem i64_and_nat (a b : Nat) (ha : a < 2 ^ 63) (hb : b < 2 ^ 63) : bits .and .i64 (a : Int) (b : Int) = ((a &&& b : Nat) : Int) := (bits_nat .i64 63 (by decide) wraps_i64 a b ha hb).1
theorem i64_or_nat (a b : Nat) (ha : a < 2 ^ 63) (hb : b < 2 ^ 63) : bits .or .i64 (a : Int) (b : Int) = ((a ||| b : Nat) : Int) := (bits_nat .i64 63 (by decide) wraps_i64 a b ha hb).2
theorem i64_xor_nat (a b : Nat) (ha : a < 2 ^ 63) (hb : b < 2 ^ 63) : bits .xor .i64 (a : Int) (b : Int) = ((a ^^^ b : Nat) : Int) := by
  have ha' : a % 2 ^ 64 = a := Nat.mod_eq_of_lt (by omega)
  have hb' : b % 2 ^ 64 = b := Nat.mod_eq_of_lt (by omega)
  show IntKind.i64.wrap ((BitVec.ofInt 64 (a : Int) ^^^ BitVec.ofInt 64 (b : Int)).toNat : Nat) = _
  rw [BitVec.ofInt_natCast, BitVec.ofInt_natCast, BitVec.toNat_xor, BitVec.toNat_ofNat, BitVec.toNat_ofNat, ha', hb']
  refine wraps_i64 _ (Int.natCast_nonneg _) ?_
  have := Nat.xor_lt_two_pow ha hb
  exact_mod_cast this
theorem i64_and (a b : Int) (h1 : 0 ≤ a) (h2 : a < 9223372036854775808) (h3 : 0 ≤ b) (h4 : b < 9223372036854775808) : bits .and .i64 a b = ((a.toNat &&& b.toNat : Nat) : Int) := by
  obtain ⟨x, rfl⟩ := Int.eq_ofNat_of_zero_le h1
  obtain ⟨y, rfl⟩ := Int.eq_ofNat_of_zero_le h3
  exact i64_and_nat x y (by omega) (by omega)
theorem i64_or (a b : Int) (h1 : 0 ≤ a) (h2 : a < 9223372036854775808) (h3 : 0 ≤ b) (h4 : b < 9223372036854775808) : bits .or .i64 a b = ((a.toNat ||| b.toNat : Nat) : Int) := by
  obtain ⟨x, rfl⟩ := Int.eq_ofNat_of_zero_le h1
  obtain ⟨y, rfl⟩ := Int.eq_ofNat_of_zero_le h3
  exact i64_or_nat x y (by omega) (by omega)
theorem i64_xor (a b : Int) (h1 : 0 ≤ a) (h2 : a < 9223372036854775808) (h3 : 0 ≤ b) (h4 : b < 9223372036854775808) : bits .xor .i64 a b = ((a.toNat ^^^ b.toNat : Nat) : Int) := by
  obtain ⟨x, rfl⟩ := Int.eq_ofNat_of_zero_le h1
  obtain ⟨y, rfl⟩ := Int.eq_ofNat_of_zero_le h3
  exact i64_xor_nat x y (by omega) (by omega)
/-- n and a mask of the lowest i bits, whatever the sign of n. -/
theorem i64_mask (n : Int) (i : Nat) (hi : i ≤ 62) : bits .and .i64 n (2 ^ i - 1) = n % 2 ^ i := by
  have hpos : 0 < 2 ^ i := Nat.two_pow_pos i
  have hle : 2 ^ i ≤ 2 ^ 62 := Nat.pow_le_pow_right (by decide) hi
  have hc : ((2 : Int) ^ i - 1) = ((2 ^ i - 1 : Nat) : Int) := by rw [Int.natCast_sub hpos]; simp
  have hm : (2 ^ i - 1) % 2 ^ 64 = 2 ^ i - 1 := Nat.mod_eq_of_lt (by omega)
  show IntKind.i64.wrap ((BitVec.ofInt 64 n &&& BitVec.ofInt 64 (2 ^ i - 1)).toNat : Nat) = _
  rw [hc, BitVec.ofInt_natCast, BitVec.toNat_and, BitVec.toNat_ofInt, BitVec.toNat_ofNat, hm, Nat.and_two_pow_sub_one_eq_mod]
  have hd : ((2 : Int) ^ i) ∣ ((2 ^ 64 : Nat) : Int) := by
    refine ⟨(2 : Int) ^ (64 - i), ?_⟩
    rw [← Int.pow_add, Nat.add_sub_cancel' (by omega)]; rfl
  have hnn : (0 : Int) ≤ n % ((2 ^ 64 : Nat) : Int) := Int.emod_nonneg _ (by decide)
  have e : (((n % ((2 ^ 64 : Nat) : Int)).toNat % 2 ^ i : Nat) : Int) = n % 2 ^ i := by
    rw [Int.natCast_emod, Int.toNat_of_nonneg hnn]
    have e2 : ((2 ^ i : Nat) : Int) = (2 : Int) ^ i := by simp
    rw [e2, Int.emod_emod_of_dvd _ hd]
  rw [e]
  have h0 : 0 ≤ n % (2 : Int) ^ i := Int.emod_nonneg _ (by have : (0 : Int) < 2 ^ i := by exact_mod_cast hpos
                                                           omega)
  have h1 : n % (2 : Int) ^ i < 2 ^ i := Int.emod_lt_of_pos _ (by exact_mod_cast hpos)
  have h2 : (2 : Int) ^ i ≤ 2 ^ 62 := by exact_mod_cast hle
  exact wraps_i64 _ h0 (by omega)
theorem i64_and1 (n : Int) : bits .and .i64 n 1 = n % 2 := i64_mask n 1 (by decide)
theorem i64_and3 (n : Int) : bits .and .i64 n 3 = n % 4 := i64_mask n 2 (by decide)
theorem i64_and255 (n : Int) : bits .and .i64 n 255 = n % 256 := i64_mask n 8 (by decide)

/-! ### A variable of a type whose zero value is known (big arrays) -/
theorem wpList_alloc_known {P : Program} {ops : Array Oper} {rest : List Oper} {o : Oper} {a : Act} {w : World} {Q : Exit → Act → World → Prop} (hgd : o.guard = none) (t : TypeId) (ho : o.op = .alloc t)
    (z : Array Value) (hz : (P.info? t).bind (fun i => i.zero.map Value.cells) = some z)
    (h : wpList P ops Q rest (a.put o.dst (.pointer (some ⟨w.heap.size, 0, none⟩))) (w.alloc (.cells z t))) : wpList P ops Q (o :: rest) a w := by
  refine wpList_plain hgd fun _ hK => ?_
  cases hi : P.info? t with
  | none => simp [hi] at hz
  | some i =>
    cases hz' : i.zero with
    | none => simp [hi, hz'] at hz
    | some v =>
      simp [hi, hz'] at hz
      subst hz
      unfold Oper.wp execOp
      simp [ho, Instr.alloc, zeroValue, typeInfo, hi, hz', newVar, newRow, go_sem]
      exact hK _ _ h

/-! ### string(bytes), []byte(string) -/
theorem wpList_bytes_string {P : Program} {ops : Array Oper} {rest : List Oper} {o : Oper} {a : Act} {w : World} {Q : Exit → Act → World → Prop} (hgd : o.guard = none) (src dst e : TypeId) (x : Operand) (ho : o.op = .convert src dst x)
    (hs : P.underlying src = some (.slice e)) (he : P.underlying e = some (.int .u8)) (hd : P.underlying dst = some .string)
    (ad : Addr) (n cap : Nat) (l : List UInt8) (hx : a.eval x = .slice (some ad) n cap) (hl : l.length = n)
    (hc : ∀ j (hj : j < l.length), w.cell? (ad.add j) = some (.int .u8 (l[j].toNat : Int)))
    (h : wpList P ops Q rest (a.put o.dst (.string ⟨l.toArray⟩)) w) : wpList P ops Q (o :: rest) a w := by
  refine wpList_plain hgd fun _ hK => ?_
  subst hl
  have hr := run_convert_bytes_back (P := P) w src dst e ad cap l hs he hd hc
  unfold Oper.wp execOp
  simp only [ho, hx, Sem.run_bind, hr, Result.andThen_ok]
  exact hK _ _ h
theorem le_grownCap (w : World) (n old : Nat) (e : TypeId) : n ≤ grownCap w n old e := by unfold grownCap; simp [Question.cut]
theorem wpList_string_bytes {P : Program} {ops : Array Oper} {rest : List Oper} {o : Oper} {a : Act} {w : World} {Q : Exit → Act → World → Prop} (hgd : o.guard = none) (src dst e : TypeId) (x : Operand) (ho : o.op = .convert src dst x)
    (hs : P.underlying src = some .string) (hd : P.underlying dst = some (.slice e)) (he : P.underlying e = some (.int .u8))
    (s : ByteArray) (hx : a.eval x = .string s)
    (h : ∀ cap, s.size ≤ cap → wpList P ops Q rest (a.put o.dst (.slice (some ⟨w.heap.size, 0, none⟩) s.size cap)) (w.drew.alloc (.cells (bytesRow s cap) e (cap, cap + 1)))) : wpList P ops Q (o :: rest) a w := by
  refine wpList_plain hgd fun _ hK => ?_
  have hr := run_bytes_of_string (P := P) w src dst e s hs hd he
  have hle := le_grownCap w s.size 0 e
  have hsz : (bytesRow s (grownCap w s.size 0 e)).size = grownCap w s.size 0 e := by simp [bytesRow]; have : s.data.size = s.size := rfl; omega
  rw [hsz] at hr
  unfold Oper.wp execOp
  simp only [ho, hx, Sem.run_bind, hr, Result.andThen_ok]
  exact hK _ _ (h _ hle)

/-! ### A row of bytes that '[]byte(s)' has laid -/
def brow (l : List UInt8) (cap : Nat) : Array Value := (l.map fun b => Value.int .u8 (b.toNat : Int)).toArray ++ Array.replicate (cap - l.length) (.int .u8 0)
theorem bytesRow_eq (s : ByteArray) (cap : Nat) : bytesRow s cap = brow s.data.toList cap := by
  apply Array.toList_inj.1
  simp [bytesRow, brow]
theorem brow_get {l : List UInt8} {cap j : Nat} (h : j < l.length) : (brow l cap)[j]? = some (.int .u8 (l[j].toNat : Int)) := by
  unfold brow
  rw [Array.getElem?_append_left (by simpa using h)]
  simp [h]
theorem brow_set {l : List UInt8} {cap j : Nat} (h : j < l.length) (b : UInt8) : (brow l cap).setIfInBounds j (.int .u8 (b.toNat : Int)) = brow (l.set j b) cap := by
  apply Array.toList_inj.1
  simp [brow, h, List.map_set]
theorem brow_size {l : List UInt8} {cap : Nat} (h : l.length ≤ cap) : (brow l cap).size = cap := by simp [brow]; omega
theorem setCell_row {w : World} {g i : Nat} {cs : Array Value} {t : TypeId} {fr : Nat × Nat} (hg : w.heap[g]? = some (.cells cs t fr)) (v : Value) :
    (w.setCell ⟨g, i, none⟩ v).heap[g]? = some (.cells (cs.setIfInBounds i v) t fr) := by
  rw [setCell_eq_setRow w g i cs t fr v hg]
  exact setRow_heap w g cs _ t _ hg
theorem frozen_marked {w : World} {g j cap : Nat} {cs : Array Value} {t : TypeId} (hg : w.heap[g]? = some (.cells cs t (cap, cap + 1))) (hj : j < cap) : w.frozen? ⟨g, j, none⟩ = false := by
  simp [World.frozen?, hg]; omega

theorem brow_cells {w : World} {g cap : Nat} {l : List UInt8} {t : TypeId} {fr : Nat × Nat} (hg : w.heap[g]? = some (.cells (brow l cap) t fr)) (j : Nat) (hj : j < l.length) :
    w.cell? ((⟨g, 0, none⟩ : Addr).add j) = some (.int .u8 (l[j].toNat : Int)) := by
  have e : (⟨g, 0, none⟩ : Addr).add j = ⟨g, j, none⟩ := by
    unfold Addr.add; split
    · rename_i h; subst h; rfl
    · simp
  rw [e, cell_of_row w g j _ t fr hg, brow_get hj]

theorem below2 {w : World} (a b : Obj) : Below w.heap.size w ((w.alloc a).alloc b) := ((Below.refl _ _).alloc (Nat.le_refl _) _).alloc (by simp) _
theorem below1 {w : World} (a : Obj) : Below w.heap.size w (w.alloc a) := (Below.refl _ _).alloc (Nat.le_refl _) _
theorem below_row {B g : Nat} {w0 w : World} (hb : Below B w0 w) (hBg : B ≤ g) (cs : Array Value) : Below B w0 (w.setRow g cs) :=
  ⟨hb.os, hb.tape, hb.output, by rw [size_setRow]; exact hb.size, fun k hk => (setRow_other w g k cs (by omega)).trans (hb.block k hk)⟩
/-- '1 << n' as the walk writes it, behind a variable. -/
theorem pow_at (n : Nat) (hn : n ≤ 62) : ∃ p : Int, wrap64 ((2 : Int) ^ n) = p ∧ Hid (p = 2 ^ n) ∧ 1 ≤ p ∧ p ≤ 4611686018427387904 := by
  have h1 : (1 : Int) ≤ 2 ^ n := by have := Nat.one_le_two_pow (n := n); exact_mod_cast this
  have h2 : (2 : Int) ^ n ≤ 2 ^ 62 := by have := Nat.pow_le_pow_right (n := 2) (by decide) hn; exact_mod_cast this
  refine ⟨2 ^ n, IntWalk.wrap64_in _ ⟨by omega, by omega⟩, rfl, h1, by omega⟩
/-- A contract in a row of calls: what was new before stays new. -/
theorem acc {P : Program} {f : FuncId} {args : Array Value} {w0 w : World} {R : Ending → Prop} (hb : Below w0.heap.size w0 w) (h : Calls P f args w fun e w' => R e ∧ Below w.heap.size w w') :
    Calls P f args w fun e w' => R e ∧ Below w0.heap.size w0 w' := h.mono fun _ _ ⟨h1, h2⟩ => ⟨h1, hb.trans (h2.mono hb.size)⟩
theorem hide {p : Prop} (h : p) : Hid p := h
theorem ret_int {k : IntKind} {a b : Int} (h : a = b) : Ending.returned (.int k a) = .returned (.int k b) := by rw [h]
end Go.Proofs.YtdmedeaknnldcaaGreatDoor
