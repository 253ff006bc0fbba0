/- Packets: the dice's sources, rates, packets. -/
import Derived.Test.YtdmedeaknnldcaaDoorStI
import Derived.Test.YtdmedeaknnldcaaDoorPkA
namespace Go.Proofs.YtdmedeaknnldcaaDoor
open Go.RowKit
set_option linter.unusedVariables false
set_option linter.unusedSimpArgs false
set_option linter.unnecessarySimpa false
/-- A source, its text, and back. -/
structure SrcOk (a b c d : ByteArray) : Prop where
  v : F31_d 600 (a, b, c, d) = some true
  n : 8 ≤ (joined [a, b, c, d]).size ∧ (joined [a, b, c, d]).size ≤ 15
  q : F43_d 600 (joined [a, b, c, d]) = some (a, b, c, d, 0)
def srcA : List ByteArray := [⟨#[71, 82]⟩, ⟨#[88]⟩, ⟨#[55, 65]⟩]
def srcB : List ByteArray := [⟨#[70, 85, 82]⟩, ⟨#[65]⟩, ⟨#[65, 66, 67, 68, 69]⟩, ⟨#[70, 85]⟩]
def srcC : List ByteArray := [⟨#[]⟩, ⟨#[48, 48]⟩, ⟨#[49, 48]⟩]
def srcD : List ByteArray := [⟨#[72, 72, 90]⟩, ⟨#[72, 72, 78]⟩, ⟨#[66, 72, 90]⟩]
set_option maxHeartbeats 4000000 in
theorem src_all (a b c d : ByteArray) (ha : a ∈ srcA) (hb : b ∈ srcB) (hc : c ∈ srcC) (hd : d ∈ srcD) : SrcOk a b c d := by
  simp only [srcA, srcB, srcC, srcD, List.mem_cons, List.not_mem_nil, or_false] at ha hb hc hd
  rcases ha with rfl | rfl | rfl <;> rcases hb with rfl | rfl | rfl | rfl <;> rcases hc with rfl | rfl | rfl <;> rcases hd with rfl | rfl | rfl <;> exact ⟨by kernel_rfl, of_decide_eq_true (by kernel_rfl), by kernel_rfl⟩
theorem pickS (O : List ByteArray) {v : Int} (h : 0 ≤ v ∧ v < (O.length : Int)) : ∃ s ∈ O, (O.map fun s => [AV.v (.string s)])[v.toNat]? = some [AV.v (.string s)] := by
  have h1 : v.toNat < O.length := by omega
  exact ⟨O[v.toNat], List.getElem_mem h1, by simp [h1]⟩
theorem source_ok {xs : List Int} {p : Int} (D : Dice xs p) : ∃ (a b c d : ByteArray) (p' : Int), F18_d 600 (rowsI xs, p) = some (a, b, c, d, rowsI xs, p') ∧ SrcOk a b c d ∧ Dice xs p' := by
  obtain ⟨v1, p1, g1, r1, D1⟩ := next_ok 600 (n := 3) (by omega) D
  obtain ⟨v2, p2, g2, r2, D2⟩ := next_ok 600 (n := 4) (by omega) D1
  obtain ⟨v3, p3, g3, r3, D3⟩ := next_ok 600 (n := 3) (by omega) D2
  obtain ⟨v4, p4, g4, r4, D4⟩ := next_ok 600 (n := 3) (by omega) D3
  obtain ⟨a, ha, ea⟩ := pickS srcA (v := v1) r1
  obtain ⟨b, hb, eb⟩ := pickS srcB (v := v2) r2
  obtain ⟨c, hc, ec⟩ := pickS srcC (v := v3) r3
  obtain ⟨d, hd, ed⟩ := pickS srcD (v := v4) r4
  simp only [srcA, srcB, srcC, srcD, List.map_cons, List.map_nil] at ea eb ec ed
  refine ⟨a, b, c, d, p4, ?_, src_all a b c d ha hb hc hd, D4⟩
  simp only [F18_d, FSpec.d, F18_s, g1, g2, g3, g4, r1.1, r2.1, r3.1, r4.1, if_true, ea, eb, ec, ed, List.getElem?_cons_zero]
/-- A rate in lowest terms. -/
structure RateOk (n d : Int) : Prop where
  v : F32_d 600 (n, d) = some true
  n : 1 ≤ n ∧ n ≤ 4096
  d : 1 ≤ d ∧ d ≤ 4096
def ratN : List Int := [1, 3, 20, 100, 40, 4096, 7]
def ratD : List Int := [1, 1, 1, 3, 7, 4096]
theorem rate_all (n d : Int) (hn : n ∈ ratN) (hd : d ∈ ratD) : F33_d 600 (n, d) = some (n / (Int.gcd n d : Int), d / (Int.gcd n d : Int), 0) ∧ RateOk (n / (Int.gcd n d : Int)) (d / (Int.gcd n d : Int)) := by
  simp only [ratN, ratD, List.mem_cons, List.not_mem_nil, or_false] at hn hd
  rcases hn with rfl | rfl | rfl | rfl | rfl | rfl | rfl <;> rcases hd with rfl | rfl | rfl | rfl | rfl | rfl <;> exact ⟨by kernel_rfl, by kernel_rfl, of_decide_eq_true (by kernel_rfl), of_decide_eq_true (by kernel_rfl)⟩
theorem rate_ok {xs : List Int} {p : Int} (D : Dice xs p) : ∃ (n d p' : Int), F20_d 600 (rowsI xs, p) = some (n, d, rowsI xs, p') ∧ RateOk n d ∧ Dice xs p' := by
  obtain ⟨v1, p1, g1, m1, D1⟩ := pick_ok 600 ratN (by simp [ratN]) D
  obtain ⟨v2, p2, g2, m2, D2⟩ := pick_ok 600 ratD (by simp [ratD]) D1
  obtain ⟨h1, h2⟩ := rate_all v1 v2 m1 m2
  simp only [ratN, ratD, rowsI, List.map_cons, List.map_nil] at g1 g2
  refine ⟨_, _, p2, ?_, h2, D2⟩
  simp only [F20_d, FSpec.d, F20_s, rowsI, g1, g2, h1]
/-- A valid packet. -/
structure PV (a b c d : ByteArray) (run seq start num den clk err : Int) (X : List Int) : Prop where
  src : SrcOk a b c d
  rate : RateOk num den
  run : 0 ≤ run ∧ run ≤ 65535
  seq : 0 ≤ seq ∧ seq ≤ 1073741824
  start : 0 ≤ start ∧ start ≤ 9007199254740992
  clk : 0 ≤ clk ∧ clk ≤ 2
  err : 0 ≤ err ∧ err ≤ 1099511627776
  len : 1 ≤ X.length ∧ X.length ≤ 104
  smp : ∀ x ∈ X, Smp x
theorem packet_ok {xs : List Int} {p : Int} (D : Dice xs p) : ∃ (a b c d : ByteArray) (run seq start num den clk err : Int) (X : List Int) (p' : Int), F9_d 600 (rowsI xs, p) = some (a, b, c, d, run, seq, start, num, den, clk, err, rowsI X, rowsI xs, p') ∧ PV a b c d run seq start num den clk err X ∧ Dice xs p' := by
  obtain ⟨a, b, c, d, p1, g1, S1, D1⟩ := source_ok D
  obtain ⟨v2, p2, g2, m2, D2⟩ := pick_ok 600 [0, 1, 65535] (by simp) D1
  obtain ⟨v3, p3, g3, m3, D3⟩ := pick_ok 600 [0, 7, 1073741824] (by simp) D2
  obtain ⟨v4, p4, g4, m4, D4⟩ := pick_ok 600 [0, 1000000000000, 9007199254740992] (by simp) D3
  obtain ⟨n5, d5, p5, g5, R5, D5⟩ := rate_ok D4
  obtain ⟨v6, p6, g6, r6, D6⟩ := next_ok 600 (n := 3) (by omega) D5
  obtain ⟨v7, p7, g7, m7, D7⟩ := pick_ok 600 [0, 50, 1099511627776] (by simp) D6
  obtain ⟨X, p8, g8, r8, s8, D8⟩ := samples_ok (n := 24) (by omega) D7
  replace g2 : F19_d 600 ([[(AV.v (.int .i64 0))], [(AV.v (.int .i64 1))], [(AV.v (.int .i64 65535))]], rowsI xs, p1) = _ := g2
  replace g3 : F19_d 600 ([[(AV.v (.int .i64 0))], [(AV.v (.int .i64 7))], [(AV.v (.int .i64 1073741824))]], rowsI xs, p2) = _ := g3
  replace g4 : F19_d 600 ([[(AV.v (.int .i64 0))], [(AV.v (.int .i64 1000000000000))], [(AV.v (.int .i64 9007199254740992))]], rowsI xs, p3) = _ := g4
  replace g7 : F19_d 600 ([[(AV.v (.int .i64 0))], [(AV.v (.int .i64 50))], [(AV.v (.int .i64 1099511627776))]], rowsI xs, p6) = _ := g7
  simp only [List.mem_cons, List.not_mem_nil, or_false] at m2 m3 m4 m7
  refine ⟨a, b, c, d, v2, v3, v4, n5, d5, v6, v7, X, p8, ?_, ⟨S1, R5, by omega, by omega, by omega, by omega, by omega, by omega, s8⟩, D8⟩
  simp only [F9_d, FSpec.d, F9_s, g1, g2, g3, g4, g5, g6, g7, g8]
theorem sane_ok : F7_d 600 () = some true := by kernel_rfl
end Go.Proofs.YtdmedeaknnldcaaDoor
