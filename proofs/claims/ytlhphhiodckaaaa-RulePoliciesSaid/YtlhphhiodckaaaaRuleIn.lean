/- Policies, rules and events that came in: their cells. (written by gen_rulein.py) -/
import Derived.Test.YtlhphhiodckaaaaRulePolA
import Derived.Test.YtlhphhiodckaaaaLeaf
namespace Go.Proofs.Ytlhphhiodckaaaa
open Go.ChangeShapes Go.WideShapes Go.ChangeAt Go.RowKit Go.Deep
set_option linter.unusedVariables false
section
variable {H : Type} {enc : TypeId × Value → H} {w : World}
instance : Inhabited Rl := ⟨⟨0, 0, 0, 0⟩⟩
theorem one_slice {P : Program} {base : Nat} {spare : Nat → Bool} {held : Bool} {t e : TypeId} {n : Nat} {cs : List Value} {y : DataW H × List MemPlace} (hs : P.underlying t = some (.slice e)) (h : DataW.trod enc P w base spare held n t cs = some y) : ∃ (p : Option Addr) (len cap : Nat), cs = [.slice p len cap] := by
  rcases DataW.trod_slice hs h with ⟨rfl, -⟩ | ⟨a, len, cap, el, re, m, -, rfl, -⟩
  · exact ⟨none, 0, 0, rfl⟩
  · exact ⟨some a, len, cap, rfl⟩
theorem rules_in {fuel : Nat} {cs : List Value} {x : DataW H × List MemPlace} (h : DataW.trod enc Try.prog w 0 (fun _ => true) true fuel 22 cs = some x) : ∃ (p : Option Addr) (n c : Nat) (L : List Rl), cs = [.slice p n c] ∧ RlRow w p n L ∧ (n ≤ c ∧ c ≤ 9223372036854775807) := by
  obtain ⟨p, len, cap, hcs, h1, h2, h3, h4⟩ := slice_in (ls := [.int .i64, .int .i64, .int .i64, .int .i64]) (n := 3) Try.underlying22 (by kernel_rfl) (by kernel_rfl) (by decide) h
  rcases h4 with h4 | ⟨b, off, hp, hi⟩
  · exact ⟨p, len, cap, [], hcs, ⟨h4, .inl h4⟩, h1, h2⟩
  · have each : ∀ i, i < len → ∃ r : Rl, w.cell? ⟨b, off + i * 4, none⟩ = some (.int .i64 r.m) ∧ w.cell? ⟨b, off + i * 4 + 1, none⟩ = some (.int .i64 r.p) ∧ w.cell? ⟨b, off + i * 4 + 2, none⟩ = some (.int .i64 r.f) ∧ w.cell? ⟨b, off + i * 4 + 3, none⟩ = some (.int .i64 r.d) := by
      intro i hil
      obtain ⟨vs, hc, ho⟩ := hi i hil
      obtain ⟨v0, s0, rfl, k0, ho⟩ := AllOk.cons ho
      obtain ⟨v1, s1, rfl, k1, ho⟩ := AllOk.cons ho
      obtain ⟨v2, s2, rfl, k2, ho⟩ := AllOk.cons ho
      obtain ⟨v3, s3, rfl, k3, ho⟩ := AllOk.cons ho
      obtain ⟨x0, rfl, -⟩ := k0
      obtain ⟨x1, rfl, -⟩ := k1
      obtain ⟨x2, rfl, -⟩ := k2
      obtain ⟨x3, rfl, -⟩ := k3
      exact ⟨⟨x0, x1, x2, x3⟩, hc 0 _ rfl, hc 1 _ rfl, hc 2 _ rfl, hc 3 _ rfl⟩
    obtain ⟨f, hf⟩ := choose_lt each
    refine ⟨p, len, cap, (List.range len).map f, hcs, ⟨by simp, .inr ⟨b, off, hp, fun i hil => ?_⟩⟩, h1, h2⟩
    rw [List.getElem_map, List.getElem_range]
    exact hf i (by simpa using hil)
theorem policy_in {b0 : Nat} {v : Value} {d : DataW H} {p : List MemPlace} (hv : Value.okWide Try.prog w .any b0 24 v) (h : DataW.Trod enc Try.prog w 0 (fun _ => true) true 24 v d p) :
    ∃ P : Po, v = .agg #[.slice P.p P.L.length P.c, .int .i64 P.di, .int .i64 P.ev] ∧ RlRow w P.p P.L.length P.L := by
  obtain ⟨cs, rfl, h0⟩ := agg_in (n := 3) (ls := [.sl 22, .int .i64, .int .i64]) Try.underlying24 (by kernel_rfl) hv h
  obtain ⟨v0, s0, rfl, k0, h1⟩ := AllOk.cons h0
  obtain ⟨v1, s1, rfl, k1, h2⟩ := AllOk.cons h1
  obtain ⟨v2, s2, rfl, k2, h3⟩ := AllOk.cons h2
  obtain rfl := AllOk.nil h3
  obtain ⟨n, y, hy⟩ := k0
  obtain ⟨di, rfl, -⟩ := k1
  obtain ⟨ev, rfl, -⟩ := k2
  obtain ⟨q, m, c, L, hcs, hr, -, -⟩ := rules_in hy
  injection hcs with hcs _
  subst hcs
  obtain rfl : m = L.length := hr.1
  exact ⟨⟨q, c, L, di, ev⟩, rfl, hr⟩
theorem rule_in {b0 : Nat} {v : Value} {d : DataW H} {p : List MemPlace} (hv : Value.okWide Try.prog w .any b0 26 v) (h : DataW.Trod enc Try.prog w 0 (fun _ => true) true 26 v d p) :
    ∃ r : Rl, v = .agg #[.int .i64 r.m, .int .i64 r.p, .int .i64 r.f, .int .i64 r.d] := by
  obtain ⟨cs, rfl, h0⟩ := agg_in (n := 3) (ls := [.int .i64, .int .i64, .int .i64, .int .i64]) Try.underlying26 (by kernel_rfl) hv h
  obtain ⟨v0, s0, rfl, k0, h1⟩ := AllOk.cons h0
  obtain ⟨v1, s1, rfl, k1, h2⟩ := AllOk.cons h1
  obtain ⟨v2, s2, rfl, k2, h3⟩ := AllOk.cons h2
  obtain ⟨v3, s3, rfl, k3, h4⟩ := AllOk.cons h3
  obtain rfl := AllOk.nil h4
  obtain ⟨x0, rfl, -⟩ := k0
  obtain ⟨x1, rfl, -⟩ := k1
  obtain ⟨x2, rfl, -⟩ := k2
  obtain ⟨x3, rfl, -⟩ := k3
  exact ⟨⟨x0, x1, x2, x3⟩, rfl⟩
set_option maxRecDepth 100000 in
theorem event_in {b0 : Nat} {v : Value} {d : DataW H} {p : List MemPlace} (hv : Value.okWide Try.prog w .any b0 43 v) (h : DataW.Trod enc Try.prog w 0 (fun _ => true) true 43 v d p) :
    ∃ e : Ev, v = .agg #[.string e.a1, .string e.a2, .string e.a3, .string e.a4, .int .i64 e.t1, .int .i64 e.t2, .int .i64 e.t3, .int .i64 e.am, .int .i64 e.po, .slice e.p e.n e.c, .int .i64 e.x, .int .i64 e.y, .int .i64 e.z, .int .i64 e.tm, .int .i64 e.mf, .int .i64 e.lw, .int .i64 e.b1, .int .i64 e.b2, .int .i64 e.b3, .int .i64 e.b4, .int .i64 e.b5, .int .i64 e.b6, .int .i64 e.lo, .int .i64 e.hi, .int .i64 e.ct] := by
  obtain ⟨cs, rfl, h0⟩ := agg_in (n := 8) (ls := [Leaf.str, Leaf.str, Leaf.str, Leaf.str, Leaf.int .i64, Leaf.int .i64, Leaf.int .i64, Leaf.int .i64, Leaf.int .i64, Leaf.sl 31, Leaf.int .i64, Leaf.int .i64, Leaf.int .i64, Leaf.int .i64, Leaf.int .i64, Leaf.int .i64, Leaf.int .i64, Leaf.int .i64, Leaf.int .i64, Leaf.int .i64, Leaf.int .i64, Leaf.int .i64, Leaf.int .i64, Leaf.int .i64, Leaf.int .i64]) Try.underlying43 (by kernel_rfl) hv h
  obtain ⟨v0, s0, rfl, k0, h1⟩ := AllOk.cons h0
  obtain ⟨a1, rfl, -⟩ := k0
  obtain ⟨v1, s1, rfl, k1, h2⟩ := AllOk.cons h1
  obtain ⟨a2, rfl, -⟩ := k1
  obtain ⟨v2, s2, rfl, k2, h3⟩ := AllOk.cons h2
  obtain ⟨a3, rfl, -⟩ := k2
  obtain ⟨v3, s3, rfl, k3, h4⟩ := AllOk.cons h3
  obtain ⟨a4, rfl, -⟩ := k3
  obtain ⟨v4, s4, rfl, k4, h5⟩ := AllOk.cons h4
  obtain ⟨t1, rfl, w4⟩ := k4
  obtain ⟨v5, s5, rfl, k5, h6⟩ := AllOk.cons h5
  obtain ⟨t2, rfl, w5⟩ := k5
  obtain ⟨v6, s6, rfl, k6, h7⟩ := AllOk.cons h6
  obtain ⟨t3, rfl, w6⟩ := k6
  obtain ⟨v7, s7, rfl, k7, h8⟩ := AllOk.cons h7
  obtain ⟨am, rfl, w7⟩ := k7
  obtain ⟨v8, s8, rfl, k8, h9⟩ := AllOk.cons h8
  obtain ⟨po, rfl, w8⟩ := k8
  obtain ⟨v9, s9, rfl, k9, h10⟩ := AllOk.cons h9
  obtain ⟨n9, y9, hy9⟩ := k9
  obtain ⟨p, len, cap, hcs⟩ := one_slice Try.underlying31 hy9
  injection hcs with hcs _
  subst hcs
  obtain ⟨v10, s10, rfl, k10, h11⟩ := AllOk.cons h10
  obtain ⟨x, rfl, w10⟩ := k10
  obtain ⟨v11, s11, rfl, k11, h12⟩ := AllOk.cons h11
  obtain ⟨y, rfl, w11⟩ := k11
  obtain ⟨v12, s12, rfl, k12, h13⟩ := AllOk.cons h12
  obtain ⟨z, rfl, w12⟩ := k12
  obtain ⟨v13, s13, rfl, k13, h14⟩ := AllOk.cons h13
  obtain ⟨tm, rfl, w13⟩ := k13
  obtain ⟨v14, s14, rfl, k14, h15⟩ := AllOk.cons h14
  obtain ⟨mf, rfl, w14⟩ := k14
  obtain ⟨v15, s15, rfl, k15, h16⟩ := AllOk.cons h15
  obtain ⟨lw, rfl, w15⟩ := k15
  obtain ⟨v16, s16, rfl, k16, h17⟩ := AllOk.cons h16
  obtain ⟨b1, rfl, w16⟩ := k16
  obtain ⟨v17, s17, rfl, k17, h18⟩ := AllOk.cons h17
  obtain ⟨b2, rfl, w17⟩ := k17
  obtain ⟨v18, s18, rfl, k18, h19⟩ := AllOk.cons h18
  obtain ⟨b3, rfl, w18⟩ := k18
  obtain ⟨v19, s19, rfl, k19, h20⟩ := AllOk.cons h19
  obtain ⟨b4, rfl, w19⟩ := k19
  obtain ⟨v20, s20, rfl, k20, h21⟩ := AllOk.cons h20
  obtain ⟨b5, rfl, w20⟩ := k20
  obtain ⟨v21, s21, rfl, k21, h22⟩ := AllOk.cons h21
  obtain ⟨b6, rfl, w21⟩ := k21
  obtain ⟨v22, s22, rfl, k22, h23⟩ := AllOk.cons h22
  obtain ⟨lo, rfl, w22⟩ := k22
  obtain ⟨v23, s23, rfl, k23, h24⟩ := AllOk.cons h23
  obtain ⟨hi, rfl, w23⟩ := k23
  obtain ⟨v24, s24, rfl, k24, h25⟩ := AllOk.cons h24
  obtain ⟨ct, rfl, w24⟩ := k24
  obtain rfl := AllOk.nil h25
  exact ⟨⟨a1, a2, a3, a4, t1, t2, t3, am, po, p, len, cap, x, y, z, tm, mf, lw, b1, b2, b3, b4, b5, b6, lo, hi, ct⟩, rfl⟩
end
end Go.Proofs.Ytlhphhiodckaaaa
