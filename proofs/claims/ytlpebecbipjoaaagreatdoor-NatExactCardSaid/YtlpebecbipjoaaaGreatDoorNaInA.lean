/- Natural numbers: contracts of functions without memory, for walks. -/
import Derived.Test.YtlpebecbipjoaaaGreatDoorNaBack
import Derived.Test.YtlpebecbipjoaaaGreatDoorNaI
namespace Go.Proofs.YtlpebecbipjoaaaGreatDoor
open Go.RowKit
set_option linter.unusedVariables false
set_option linter.unusedSimpArgs false
set_option linter.unnecessarySimpa false
/-- A slice's shape. -/
def Shp (p : Option Addr) (n c : Nat) : Prop := (p = none ∧ n = 0 ∧ c = 0) ∨ ∃ g off, p = some ⟨g, off, none⟩ ∧ n ≤ c
theorem ILRow.rd {w : World} {p : Option Addr} {n c : Nat} {L : List Int} (h : ILRow w p n L) (hs : Shp p n c) (ρ : Rho) (σ : Sig) : Rd (memOf w) ρ σ (.slice p n c) (.list 1 (rowsI L) none) := by
  obtain ⟨rfl, h⟩ := h
  rcases hs with ⟨rfl, h0, rfl⟩ | ⟨g, off, rfl, hc⟩
  · have : L = [] := List.length_eq_zero_iff.1 h0
    subst this
    exact .nil
  · refine .list (fun i j => .int .i64 (L.getD i 0)) (rowsI_len L) hc (fun i h => by simp [rowsI]) (fun i j hi hj => ?_) (fun i j => rfl) (fun i j hi hj => ?_) .none
    · have hj0 : j = 0 := by omega
      subst hj0
      have hi' : i < L.length := by rw [rowsI_len] at hi; exact hi
      rcases h with h | ⟨b, o, he, h⟩
      · omega
      · cases he
        have := h i hi'
        show w.cell? ⟨g, off + i * 1 + 0, none⟩ = _
        rw [Nat.mul_one, Nat.add_zero, this]
        simp [List.getD_eq_getElem?_getD, hi']
    · have hj0 : j = 0 := by simp [rowsI] at hj; exact hj
      subst hj0
      have hi' : i < L.length := by rw [rowsI_len] at hi; exact hi
      simp [rowsI, List.getD_eq_getElem?_getD, hi']
      exact .v
theorem rd_row {w : World} {M : Mem} {ρ : Rho} {σ : Sig} {v : Value} {L : List Int} {t : Option Nat} (hM : ∀ g o x, M g o = some x → w.cell? ⟨g, o, none⟩ = some x) (h : Rd M ρ σ v (.list 1 (rowsI L) t)) : ∃ p n c, v = .slice p n c ∧ ILRow w p n L ∧ Shp p n c := by
  generalize hr : rowsI L = R at h
  cases h with
  | nil =>
    have : L = [] := by cases L with | nil => rfl | cons x r => cases hr
    subst this
    exact ⟨none, 0, 0, rfl, ⟨rfl, .inl rfl⟩, .inl ⟨rfl, rfl, rfl⟩⟩
  | @list _ _ g off len cap _ _ _ cf q1 q2 q3 q4 q5 q6 q7 =>
    subst hr
    have hl : len = L.length := by rw [← q1, rowsI_len]
    refine ⟨some ⟨g, off, none⟩, len, cap, rfl, ⟨hl, .inr ⟨g, off, rfl, fun i hi => ?_⟩⟩, .inr ⟨g, off, rfl, q2⟩⟩
    have hi' : i < (rowsI L).length := by rw [rowsI_len]; exact hi
    have m1 := hM _ _ _ (q4 i 0 hi' (by omega))
    have m2 := q6 i 0 hi' (by simp [rowsI])
    have m3 : Rd M rho0 sig0 (cf i 0) (AV.v (.int .i64 L[i])) := by
      have e2 : ((rowsI L)[i])[0]'(by simp [rowsI]) = AV.v (.int .i64 L[i]) := by simp [rowsI]
      rw [e2] at m2
      exact m2
    rw [m3.v_inv] at m1
    rw [Nat.mul_one, Nat.add_zero] at m1
    exact m1
/-- A call that returns a slice of ints, and a value. -/
theorem CallOk.lists {P : Program} {f : FuncId} {args : List AV} {L : List Int} {e : Value} {tk : Option Nat} {toks : List Nat} (h : CallOk P f args [] ⟨.tup [.list 1 (rowsI L) tk, .v e], [], none, [], toks, []⟩) (W : World) (cargs : Array Value) (hsz : cargs.size = args.length) (hr : ∀ i (h : i < cargs.size) (h' : i < args.length), Rd (memOf W) (gsR []) sig0 cargs[i] args[i]) (hgl : GlOk (memOf W) W [] (InT sig0 [])) :
    Calls P f cargs W fun en w' => ∃ p n c, en = .returned (.tuple #[.slice p n c, e]) ∧ ILRow w' p n L ∧ Shp p n c ∧ Below W.heap.size W w' := by
  refine (h.2 (memOf W) W cargs [] sig0 hgl (fun _ _ _ h => h) (fun k g h => by cases h) (fun i j g h => by cases h) rfl hsz hr (fun k h => by cases h) (fun k h => by cases h) ⟨(fun t h => by cases h), (fun t sp h => by cases h), (fun t h => by cases h)⟩).mono fun en w' ⟨c, M', σ', gn, he, left⟩ => ?_
  have hv := left.val
  have hb : Below W.heap.size W w' := ⟨left.frm.os, left.frm.tape, left.frm.output, left.frm.size, fun k hk => left.frm.block k hk (fun h => by cases h) (fun ⟨t, h, _⟩ => by cases h)⟩
  have hm := left.mem
  clear left
  cases hv with
  | @tup _ _ cs _ hl hr2 =>
    have h2 : cs.size = 2 := hl
    have r0 := hr2 0 (by omega) (by simp)
    have r1 := hr2 1 (by omega) (by simp)
    obtain ⟨p, n, cc, e1, e2, e3⟩ := rd_row hm r0
    refine ⟨p, n, cc, ?_, e2, e3, hb⟩
    have r1' : cs[1]'(by omega) = e := r1.v_inv
    rw [he]
    congr 2
    apply Array.ext
    · exact h2
    · intro i hi hi'
      have hi2 : i < 2 := by simpa using hi'
      rcases (show i = 0 ∨ i = 1 by omega) with rfl | rfl
      · exact e1
      · exact r1'
theorem GlOk.later {w V : World} (h : GlOk (memOf w) w [] (InT sig0 [])) (hb : Below w.heap.size w V) : GlOk (memOf V) V [] (InT sig0 []) := by
  intro g cs hg
  obtain ⟨h1, ⟨t, z, h2⟩, h3, h4⟩ := h g cs hg
  have hlt := heap_lt h2
  have e := hb.block g hlt
  refine ⟨fun j => ⟨(h1 j).1, fun hj => ?_⟩, ⟨t, z, by rw [e]; exact h2⟩, h3, h4⟩
  have := (h1 j).2 hj
  show V.cell? ⟨g, j, none⟩ = _
  rw [cell_of_heap e]
  exact this
/-- The same, of what is known of the memory. -/
theorem GlOk.all {M : Mem} {w : World} {σ : Sig} (h : GlOk M w [] (InT σ [])) (hM : ∀ g o x, M g o = some x → w.cell? ⟨g, o, none⟩ = some x) : GlOk (memOf w) w [] (InT sig0 []) := by
  intro g cs hg
  obtain ⟨h1, h2, h3, h4⟩ := h g cs hg
  exact ⟨fun j => ⟨(h1 j).1, fun hj => hM _ _ _ ((h1 j).2 hj)⟩, h2, h3, fun ⟨t, ht, _⟩ => by cases ht⟩
open Classical in
theorem call_valid {V : World} {p : Option Addr} {n c : Nat} {L : List Int} (hn : n ≤ 590) (h : ILRow V p n L) (hs : Shp p n c) (hgl : GlOk (memOf V) V [] (InT sig0 [])) : Calls Tryz.prog 25 #[.slice p n c] V fun e w' => e = .returned (.bool (decide (VN L))) ∧ Below V.heap.size V w' := by
  refine CallOk.calls ((F25_e 600).ok (rowsI L) (decide (VN L)) (valid_any L (by have := h.1; omega))) V _ rfl (fun i hi h' => ?_) hgl
  obtain rfl : i = 0 := by have : i < 1 := h'; omega
  exact h.rd hs _ _
theorem call_valid_t {V : World} {p : Option Addr} {n c : Nat} {L : List Int} (hn : n ≤ 590) (h : ILRow V p n L) (hs : Shp p n c) (hgl : GlOk (memOf V) V [] (InT sig0 [])) (hv : VN L) : Calls Tryz.prog 25 #[.slice p n c] V fun e w' => e = .returned (.bool true) ∧ Below V.heap.size V w' := by
  classical
  have := call_valid hn h hs hgl
  rwa [decide_eq_true hv] at this
theorem call_valid_f {V : World} {p : Option Addr} {n c : Nat} {L : List Int} (hn : n ≤ 590) (h : ILRow V p n L) (hs : Shp p n c) (hgl : GlOk (memOf V) V [] (InT sig0 [])) (hv : ¬ VN L) : Calls Tryz.prog 25 #[.slice p n c] V fun e w' => e = .returned (.bool false) ∧ Below V.heap.size V w' := by
  classical
  have := call_valid hn h hs hgl
  rwa [decide_eq_false hv] at this
theorem call_from {V : World} {x : Int} (hx : 0 ≤ x ∧ x ≤ 9223372036854775807) (hgl : GlOk (memOf V) V [] (InT sig0 [])) : Calls Tryz.prog 38 #[.int .i64 x] V fun en w' => ∃ p n c, en = .returned (.tuple #[.slice p n c, .int .i64 0]) ∧ ILRow w' p n (nf x.toNat) ∧ Shp p n c ∧ Below V.heap.size V w' := by
  refine CallOk.lists ((F38_e 600).ok x (rowsI (nf x.toNat), 0) (from_ok hx)) V _ rfl (fun i hi h' => ?_) hgl
  obtain rfl : i = 0 := by have : i < 1 := h'; omega
  exact .v
theorem call_cmp {V : World} {p p2 : Option Addr} {n c n2 c2 : Nat} {L L2 : List Int} (hn : n ≤ 590) (h : ILRow V p n L) (hs : Shp p n c) (h2 : ILRow V p2 n2 L2) (hs2 : Shp p2 n2 c2) (hd : Dg L) (hd2 : Dg L2) (z : NoZ L) (z2 : NoZ L2) (hgl : GlOk (memOf V) V [] (InT sig0 [])) : Calls Tryz.prog 44 #[.slice p n c, .slice p2 n2 c2] V fun e w' => e = .returned (.int .i64 (cmpV (vv L) (vv L2))) ∧ Below V.heap.size V w' := by
  refine CallOk.calls ((F44_e 600).ok (rowsI L, rowsI L2) (cmpV (vv L) (vv L2)) (cmp_ok hd hd2 z z2 (by have := h.1; omega))) V _ rfl (fun i hi h' => ?_) hgl
  rcases (show i = 0 ∨ i = 1 by have : i < 2 := h'; omega) with rfl | rfl
  · exact h.rd hs _ _
  · exact h2.rd hs2 _ _
end Go.Proofs.YtlpebecbipjoaaaGreatDoor
