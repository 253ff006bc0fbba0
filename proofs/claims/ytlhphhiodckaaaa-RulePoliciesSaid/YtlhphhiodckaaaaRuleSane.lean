/- sample and awake: the examples of the chapter. (written by gen_rulesane.py) -/
import Derived.Test.YtlhphhiodckaaaaMovedC
namespace Go.Proofs.Ytlhphhiodckaaaa
open Go.RowKit
set_option linter.unusedVariables false
set_option linter.unusedSimpArgs false
def rs1 : Rl := ⟨300, 3, 100, 60⟩
def rs2 : Rl := ⟨500, 5, 100, 60⟩
def evS (mk : Nat) : Ev := ⟨⟨#[]⟩, ⟨#[]⟩, ⟨#[]⟩, ⟨#[]⟩, 0, 0, 0, 0, 0, some ⟨mk, 0, none⟩, 5, 5, 0, 0, 0, 1000, 0, 0, 0, 0, 0, 0, 0, 0, 480, 520, 1⟩

theorem results_cell_row2 {P : Program} {fn : Func} {p q : Tmp} {ty uy : TypeId} (h : fn.results = #[.cell p ty, .cell q uy]) (tmps : Array Value) (w : World) (g k : Nat) (t t' : TypeId) (cs ds : Array Value) (fr fr' : Nat × Nat) (d d' : TypeDesc)
    (hp : tmps.getD p undef = .pointer (some ⟨g, 0, none⟩)) (hg : w.heap[g]? = some (.cells cs t fr))
    (hu : P.underlying ty = some d) (hd : (match d with | .struct _ | .array _ _ => true | _ => false) = true) (hi : (P.info? ty).map (·.size) = some cs.size)
    (hq : tmps.getD q undef = .pointer (some ⟨k, 0, none⟩)) (hk : w.heap[k]? = some (.cells ds t' fr'))
    (hu' : P.underlying uy = some d') (hd' : (match d' with | .struct _ | .array _ _ => true | _ => false) = true) (hi' : (P.info? uy).map (·.size) = some ds.size) :
    (results fn tmps).run P w = .ok (.tuple #[.agg cs, .agg ds]) w := by
  have hp' : tmps[p]?.getD undef = .pointer (some ⟨g, 0, none⟩) := by simpa using hp
  have hq' : tmps[q]?.getD undef = .pointer (some ⟨k, 0, none⟩) := by simpa using hq
  simp [results, h, hp', hq', asAddr, run_loadVar_row w g t ty cs fr d hg hu hd hi, run_loadVar_row w k t' uy ds fr' d' hk hu' hd' hi']

structure SmpC (V : World) (g0 g2 mk : Nat) (L : Nat → Bool) (u : Nat → Value) (x : World) : Prop where
  low : ∀ k, k ≠ g0 → k ≠ g0 + 1 → x.heap[k]? = V.heap[k]?
  sz : V.heap.size ≤ x.heap.size
  bel : Below g0 V x
  r0 : x.heap[g0]? = some (.cells (if L 2 = true then #[.slice (some ⟨g2, 0, none⟩) 2 2, .int .i64 0, .int .i64 0] else #[.slice none 0 0, .int .i64 0, .int .i64 0]) 24 (0, 0))
  r1 : x.heap[g0 + 1]? = some (.cells (if L 3 = true then #[.string ⟨#[]⟩, .string ⟨#[]⟩, .string ⟨#[]⟩, .string ⟨#[]⟩, .int .i64 0, .int .i64 0, .int .i64 0, .int .i64 0, .int .i64 0, .slice (some ⟨mk, 0, none⟩) 5 5, .int .i64 0, .int .i64 0, .int .i64 0, .int .i64 1000, .int .i64 0, .int .i64 0, .int .i64 0, .int .i64 0, .int .i64 0, .int .i64 0, .int .i64 0, .int .i64 0, .int .i64 480, .int .i64 520, .int .i64 1] else #[.string ⟨#[]⟩, .string ⟨#[]⟩, .string ⟨#[]⟩, .string ⟨#[]⟩, .int .i64 0, .int .i64 0, .int .i64 0, .int .i64 0, .int .i64 0, .slice none 0 0, .int .i64 0, .int .i64 0, .int .i64 0, .int .i64 0, .int .i64 0, .int .i64 0, .int .i64 0, .int .i64 0, .int .i64 0, .int .i64 0, .int .i64 0, .int .i64 0, .int .i64 0, .int .i64 0, .int .i64 0]) 43 (0, 0))
  f0 : L 0 = true → u 15 = .agg #[.slice (some ⟨g2, 0, none⟩) 2 2, .int .i64 0, .int .i64 0]
  f1 : L 1 = true → u 16 = .agg #[.string ⟨#[]⟩, .string ⟨#[]⟩, .string ⟨#[]⟩, .string ⟨#[]⟩, .int .i64 0, .int .i64 0, .int .i64 0, .int .i64 0, .int .i64 0, .slice (some ⟨mk, 0, none⟩) 5 5, .int .i64 0, .int .i64 0, .int .i64 0, .int .i64 1000, .int .i64 0, .int .i64 0, .int .i64 0, .int .i64 0, .int .i64 0, .int .i64 0, .int .i64 0, .int .i64 0, .int .i64 480, .int .i64 520, .int .i64 1]
set_option maxHeartbeats 4000000 in
set_option maxRecDepth 100000 in
theorem rule_sample (w : World) :
    Calls Try.prog 25 #[] w fun en w' => (∃ sb mk : Nat, en = .returned (.tuple #[.agg #[.slice (some ⟨sb, 0, none⟩) 2 2, .int .i64 0, .int .i64 0], .agg #[.string ⟨#[]⟩, .string ⟨#[]⟩, .string ⟨#[]⟩, .string ⟨#[]⟩, .int .i64 0, .int .i64 0, .int .i64 0, .int .i64 0, .int .i64 0, .slice (some ⟨mk, 0, none⟩) 5 5, .int .i64 0, .int .i64 0, .int .i64 0, .int .i64 1000, .int .i64 0, .int .i64 0, .int .i64 0, .int .i64 0, .int .i64 0, .int .i64 0, .int .i64 0, .int .i64 0, .int .i64 480, .int .i64 520, .int .i64 1]]) ∧ RlRow w' (some ⟨sb, 0, none⟩) 2 [rs1, rs2]) ∧ Below w.heap.size w w' := by
  obtain ⟨ZZ, hmk⟩ : ∃ ZZ : Array Value, ∀ W, (Instr.makeSlice 31 (.int .i64 5) (.int .i64 5)).run Try.prog W = .ok (.slice (some ⟨W.heap.size, 0, none⟩) 5 5) (W.alloc (.cells ZZ 30)) := ⟨(List.replicate 5 [.string ⟨#[]⟩, .string ⟨#[]⟩, .string ⟨#[]⟩, .string ⟨#[]⟩, .int .i64 0, .int .i64 0, .int .i64 0, .int .i64 0, .int .i64 0]).flatten.toArray, fun _ => by kernel_rfl⟩
  have G0 := hide (pair_alloc (pair_alloc (pair_alloc (heap_alloc_new w (.cells #[.slice none 0 0, .int .i64 0, .int .i64 0] 24)) (.cells #[.string ⟨#[]⟩, .string ⟨#[]⟩, .string ⟨#[]⟩, .string ⟨#[]⟩, .int .i64 0, .int .i64 0, .int .i64 0, .int .i64 0, .int .i64 0, .slice none 0 0, .int .i64 0, .int .i64 0, .int .i64 0, .int .i64 0, .int .i64 0, .int .i64 0, .int .i64 0, .int .i64 0, .int .i64 0, .int .i64 0, .int .i64 0, .int .i64 0, .int .i64 0, .int .i64 0, .int .i64 0] 43)) (.cells #[.int .i64 300, .int .i64 3, .int .i64 100, .int .i64 60, .int .i64 500, .int .i64 5, .int .i64 100, .int .i64 60] 26)) (.cells #[.slice (some ⟨w.heap.size + 1 + 1, 0, none⟩) 2 2, .int .i64 0, .int .i64 0] 24))
  have G1 := hide (pair_alloc (pair_alloc (new_at (w := w.alloc (.cells #[.slice none 0 0, .int .i64 0, .int .i64 0] 24)) (.cells #[.string ⟨#[]⟩, .string ⟨#[]⟩, .string ⟨#[]⟩, .string ⟨#[]⟩, .int .i64 0, .int .i64 0, .int .i64 0, .int .i64 0, .int .i64 0, .slice none 0 0, .int .i64 0, .int .i64 0, .int .i64 0, .int .i64 0, .int .i64 0, .int .i64 0, .int .i64 0, .int .i64 0, .int .i64 0, .int .i64 0, .int .i64 0, .int .i64 0, .int .i64 0, .int .i64 0, .int .i64 0] 43) (g := w.heap.size + 1) (by simp)) (.cells #[.int .i64 300, .int .i64 3, .int .i64 100, .int .i64 60, .int .i64 500, .int .i64 5, .int .i64 100, .int .i64 60] 26)) (.cells #[.slice (some ⟨w.heap.size + 1 + 1, 0, none⟩) 2 2, .int .i64 0, .int .i64 0] 24))
  have G2 := hide (pair_alloc (new_at (w := (w.alloc (.cells #[.slice none 0 0, .int .i64 0, .int .i64 0] 24)).alloc (.cells #[.string ⟨#[]⟩, .string ⟨#[]⟩, .string ⟨#[]⟩, .string ⟨#[]⟩, .int .i64 0, .int .i64 0, .int .i64 0, .int .i64 0, .int .i64 0, .slice none 0 0, .int .i64 0, .int .i64 0, .int .i64 0, .int .i64 0, .int .i64 0, .int .i64 0, .int .i64 0, .int .i64 0, .int .i64 0, .int .i64 0, .int .i64 0, .int .i64 0, .int .i64 0, .int .i64 0, .int .i64 0] 43)) (.cells #[.int .i64 300, .int .i64 3, .int .i64 100, .int .i64 60, .int .i64 500, .int .i64 5, .int .i64 100, .int .i64 60] 26) (g := w.heap.size + 1 + 1) (by simp)) (.cells #[.slice (some ⟨w.heap.size + 1 + 1, 0, none⟩) 2 2, .int .i64 0, .int .i64 0] 24))
  have G3 := hide (new_at (w := ((w.alloc (.cells #[.slice none 0 0, .int .i64 0, .int .i64 0] 24)).alloc (.cells #[.string ⟨#[]⟩, .string ⟨#[]⟩, .string ⟨#[]⟩, .string ⟨#[]⟩, .int .i64 0, .int .i64 0, .int .i64 0, .int .i64 0, .int .i64 0, .slice none 0 0, .int .i64 0, .int .i64 0, .int .i64 0, .int .i64 0, .int .i64 0, .int .i64 0, .int .i64 0, .int .i64 0, .int .i64 0, .int .i64 0, .int .i64 0, .int .i64 0, .int .i64 0, .int .i64 0, .int .i64 0] 43)).alloc (.cells #[.int .i64 300, .int .i64 3, .int .i64 100, .int .i64 60, .int .i64 500, .int .i64 5, .int .i64 100, .int .i64 60] 26)) (.cells #[.slice (some ⟨w.heap.size + 1 + 1, 0, none⟩) 2 2, .int .i64 0, .int .i64 0] 24) (g := w.heap.size + 1 + 1 + 1) (by simp))
  have HB := hide (((below3a (w := w) (.cells #[.slice none 0 0, .int .i64 0, .int .i64 0] 24) (.cells #[.string ⟨#[]⟩, .string ⟨#[]⟩, .string ⟨#[]⟩, .string ⟨#[]⟩, .int .i64 0, .int .i64 0, .int .i64 0, .int .i64 0, .int .i64 0, .slice none 0 0, .int .i64 0, .int .i64 0, .int .i64 0, .int .i64 0, .int .i64 0, .int .i64 0, .int .i64 0, .int .i64 0, .int .i64 0, .int .i64 0, .int .i64 0, .int .i64 0, .int .i64 0, .int .i64 0, .int .i64 0] 43) (.cells #[.int .i64 300, .int .i64 3, .int .i64 100, .int .i64 60, .int .i64 500, .int .i64 5, .int .i64 100, .int .i64 60] 26)).alloc (by simp; omega) (.cells #[.slice (some ⟨w.heap.size + 1 + 1, 0, none⟩) 2 2, .int .i64 0, .int .i64 0] 24)))
  have HSZ := hide (show ((((w.alloc (.cells #[.slice none 0 0, .int .i64 0, .int .i64 0] 24)).alloc (.cells #[.string ⟨#[]⟩, .string ⟨#[]⟩, .string ⟨#[]⟩, .string ⟨#[]⟩, .int .i64 0, .int .i64 0, .int .i64 0, .int .i64 0, .int .i64 0, .slice none 0 0, .int .i64 0, .int .i64 0, .int .i64 0, .int .i64 0, .int .i64 0, .int .i64 0, .int .i64 0, .int .i64 0, .int .i64 0, .int .i64 0, .int .i64 0, .int .i64 0, .int .i64 0, .int .i64 0, .int .i64 0] 43)).alloc (.cells #[.int .i64 300, .int .i64 3, .int .i64 100, .int .i64 60, .int .i64 500, .int .i64 5, .int .i64 100, .int .i64 60] 26)).alloc (.cells #[.slice (some ⟨w.heap.size + 1 + 1, 0, none⟩) 2 2, .int .i64 0, .int .i64 0] 24)).heap.size = w.heap.size + 1 + 1 + 1 + 1 from by simp)
  have HM := hide hmk
  clear hmk
  go_enter Try.func25, Try.ntmps25
  go_upto_region 2 with fail
  generalize (((w.alloc (.cells #[.slice none 0 0, .int .i64 0, .int .i64 0] 24)).alloc (.cells #[.string ⟨#[]⟩, .string ⟨#[]⟩, .string ⟨#[]⟩, .string ⟨#[]⟩, .int .i64 0, .int .i64 0, .int .i64 0, .int .i64 0, .int .i64 0, .slice none 0 0, .int .i64 0, .int .i64 0, .int .i64 0, .int .i64 0, .int .i64 0, .int .i64 0, .int .i64 0, .int .i64 0, .int .i64 0, .int .i64 0, .int .i64 0, .int .i64 0, .int .i64 0, .int .i64 0, .int .i64 0] 43)).alloc (.cells #[.int .i64 300, .int .i64 3, .int .i64 100, .int .i64 60, .int .i64 500, .int .i64 5, .int .i64 100, .int .i64 60] 26)).alloc (.cells #[.slice (some ⟨w.heap.size + 1 + 1, 0, none⟩) 2 2, .int .i64 0, .int .i64 0] 24) = V at HB G0 G1 G2 G3 HSZ ⊢
  have hmk := HM.out
  obtain ⟨g0, eq0⟩ : ∃ g0, w.heap.size = g0 := ⟨_, rfl⟩
  rw [eq0] at HB G0 G1 G2 G3 HSZ ⊢
  obtain ⟨g2, eq2⟩ : ∃ g2, g0 + 1 + 1 = g2 := ⟨_, rfl⟩
  rw [eq2] at G2 G3 HSZ ⊢
  obtain ⟨g3, eq3⟩ : ∃ g3, g2 + 1 = g3 := ⟨_, rfl⟩
  rw [eq3] at G3 HSZ ⊢
  obtain ⟨mk, eqm⟩ : ∃ mk, V.heap.size = mk := ⟨_, rfl⟩
  rw [eqm] at HSZ
  have GE := hide (new_at (w := V.alloc (.cells ZZ 30)) (.cells #[.string ⟨#[]⟩, .string ⟨#[]⟩, .string ⟨#[]⟩, .string ⟨#[]⟩, .int .i64 0, .int .i64 0, .int .i64 0, .int .i64 0, .int .i64 0, .slice none 0 0, .int .i64 0, .int .i64 0, .int .i64 0, .int .i64 0, .int .i64 0, .int .i64 0, .int .i64 0, .int .i64 0, .int .i64 0, .int .i64 0, .int .i64 0, .int .i64 0, .int .i64 0, .int .i64 0, .int .i64 0] 43) (g := mk + 1) (by simp [eqm]))
  have EQ0 := hide eq0
  have EQ2 := hide eq2
  have EQ3 := hide eq3
  have EQM := hide eqm
  clear eq0 eq2 eq3
  go_upto_region 3 with (first
    | (refine wpList_store_mid (by rfl) 43 (.tmp 3) (.tmp 11) (by rfl) (mk + 1) 0 #[.string ⟨#[]⟩, .string ⟨#[]⟩, .string ⟨#[]⟩, .string ⟨#[]⟩, .int .i64 0, .int .i64 0, .int .i64 0, .int .i64 0, .int .i64 0, .slice (some ⟨mk, 0, none⟩) 5 5, .int .i64 0, .int .i64 0, .int .i64 0, .int .i64 0, .int .i64 0, .int .i64 0, .int .i64 0, .int .i64 0, .int .i64 0, .int .i64 0, .int .i64 0, .int .i64 0, .int .i64 480, .int .i64 520, .int .i64 1] (by rfl) (by rfl) (there_row GE.out 0 25 (by simp)) (by kernel_rfl) (by simp [Value.oneCell']) ?_))
  simp only [Act.put]
  have e0 : g0 < mk + 1 := by have := EQ2.out; have := EQ3.out; have := HSZ.out; omega
  have e1 : g0 + 1 < mk + 1 := by have := EQ2.out; have := EQ3.out; have := HSZ.out; omega
  have e2 : g2 < mk + 1 := by have := EQ2.out; have := EQ3.out; have := HSZ.out; omega
  have e3 : g3 < mk + 1 := by have := EQ2.out; have := EQ3.out; have := HSZ.out; omega
  have HB := hide (((HB.out.alloc (by rw [eqm]; omega) (.cells ZZ 30)).alloc (by simp; omega) (.cells #[.string ⟨#[]⟩, .string ⟨#[]⟩, .string ⟨#[]⟩, .string ⟨#[]⟩, .int .i64 0, .int .i64 0, .int .i64 0, .int .i64 0, .int .i64 0, .slice none 0 0, .int .i64 0, .int .i64 0, .int .i64 0, .int .i64 0, .int .i64 0, .int .i64 0, .int .i64 0, .int .i64 0, .int .i64 0, .int .i64 0, .int .i64 0, .int .i64 0, .int .i64 0, .int .i64 0, .int .i64 0] 43)).trans ((sets_below (g := mk + 1) [.string ⟨#[]⟩, .string ⟨#[]⟩, .string ⟨#[]⟩, .string ⟨#[]⟩, .int .i64 0, .int .i64 0, .int .i64 0, .int .i64 0, .int .i64 0, .slice (some ⟨mk, 0, none⟩) 5 5, .int .i64 0, .int .i64 0, .int .i64 0, .int .i64 0, .int .i64 0, .int .i64 0, .int .i64 0, .int .i64 0, .int .i64 0, .int .i64 0, .int .i64 0, .int .i64 0, .int .i64 480, .int .i64 520, .int .i64 1] _ 0).mono (by omega)))
  have G0 := hide ((sets_other (show g0 ≠ mk + 1 by omega) [.string ⟨#[]⟩, .string ⟨#[]⟩, .string ⟨#[]⟩, .string ⟨#[]⟩, .int .i64 0, .int .i64 0, .int .i64 0, .int .i64 0, .int .i64 0, .slice (some ⟨mk, 0, none⟩) 5 5, .int .i64 0, .int .i64 0, .int .i64 0, .int .i64 0, .int .i64 0, .int .i64 0, .int .i64 0, .int .i64 0, .int .i64 0, .int .i64 0, .int .i64 0, .int .i64 0, .int .i64 480, .int .i64 520, .int .i64 1] _ 0).trans (pair_alloc (pair_alloc G0.out (.cells ZZ 30)) (.cells #[.string ⟨#[]⟩, .string ⟨#[]⟩, .string ⟨#[]⟩, .string ⟨#[]⟩, .int .i64 0, .int .i64 0, .int .i64 0, .int .i64 0, .int .i64 0, .slice none 0 0, .int .i64 0, .int .i64 0, .int .i64 0, .int .i64 0, .int .i64 0, .int .i64 0, .int .i64 0, .int .i64 0, .int .i64 0, .int .i64 0, .int .i64 0, .int .i64 0, .int .i64 0, .int .i64 0, .int .i64 0] 43)))
  have G1 := hide ((sets_other (show g0 + 1 ≠ mk + 1 by omega) [.string ⟨#[]⟩, .string ⟨#[]⟩, .string ⟨#[]⟩, .string ⟨#[]⟩, .int .i64 0, .int .i64 0, .int .i64 0, .int .i64 0, .int .i64 0, .slice (some ⟨mk, 0, none⟩) 5 5, .int .i64 0, .int .i64 0, .int .i64 0, .int .i64 0, .int .i64 0, .int .i64 0, .int .i64 0, .int .i64 0, .int .i64 0, .int .i64 0, .int .i64 0, .int .i64 0, .int .i64 480, .int .i64 520, .int .i64 1] _ 0).trans (pair_alloc (pair_alloc G1.out (.cells ZZ 30)) (.cells #[.string ⟨#[]⟩, .string ⟨#[]⟩, .string ⟨#[]⟩, .string ⟨#[]⟩, .int .i64 0, .int .i64 0, .int .i64 0, .int .i64 0, .int .i64 0, .slice none 0 0, .int .i64 0, .int .i64 0, .int .i64 0, .int .i64 0, .int .i64 0, .int .i64 0, .int .i64 0, .int .i64 0, .int .i64 0, .int .i64 0, .int .i64 0, .int .i64 0, .int .i64 0, .int .i64 0, .int .i64 0] 43)))
  have G2 := hide ((sets_other (show g2 ≠ mk + 1 by omega) [.string ⟨#[]⟩, .string ⟨#[]⟩, .string ⟨#[]⟩, .string ⟨#[]⟩, .int .i64 0, .int .i64 0, .int .i64 0, .int .i64 0, .int .i64 0, .slice (some ⟨mk, 0, none⟩) 5 5, .int .i64 0, .int .i64 0, .int .i64 0, .int .i64 0, .int .i64 0, .int .i64 0, .int .i64 0, .int .i64 0, .int .i64 0, .int .i64 0, .int .i64 0, .int .i64 0, .int .i64 480, .int .i64 520, .int .i64 1] _ 0).trans (pair_alloc (pair_alloc G2.out (.cells ZZ 30)) (.cells #[.string ⟨#[]⟩, .string ⟨#[]⟩, .string ⟨#[]⟩, .string ⟨#[]⟩, .int .i64 0, .int .i64 0, .int .i64 0, .int .i64 0, .int .i64 0, .slice none 0 0, .int .i64 0, .int .i64 0, .int .i64 0, .int .i64 0, .int .i64 0, .int .i64 0, .int .i64 0, .int .i64 0, .int .i64 0, .int .i64 0, .int .i64 0, .int .i64 0, .int .i64 0, .int .i64 0, .int .i64 0] 43)))
  have G3 := hide ((sets_other (show g3 ≠ mk + 1 by omega) [.string ⟨#[]⟩, .string ⟨#[]⟩, .string ⟨#[]⟩, .string ⟨#[]⟩, .int .i64 0, .int .i64 0, .int .i64 0, .int .i64 0, .int .i64 0, .slice (some ⟨mk, 0, none⟩) 5 5, .int .i64 0, .int .i64 0, .int .i64 0, .int .i64 0, .int .i64 0, .int .i64 0, .int .i64 0, .int .i64 0, .int .i64 0, .int .i64 0, .int .i64 0, .int .i64 0, .int .i64 480, .int .i64 520, .int .i64 1] _ 0).trans (pair_alloc (pair_alloc G3.out (.cells ZZ 30)) (.cells #[.string ⟨#[]⟩, .string ⟨#[]⟩, .string ⟨#[]⟩, .string ⟨#[]⟩, .int .i64 0, .int .i64 0, .int .i64 0, .int .i64 0, .int .i64 0, .slice none 0 0, .int .i64 0, .int .i64 0, .int .i64 0, .int .i64 0, .int .i64 0, .int .i64 0, .int .i64 0, .int .i64 0, .int .i64 0, .int .i64 0, .int .i64 0, .int .i64 0, .int .i64 0, .int .i64 0, .int .i64 0] 43)))
  have G5 := hide ((sets_heap [.string ⟨#[]⟩, .string ⟨#[]⟩, .string ⟨#[]⟩, .string ⟨#[]⟩, .int .i64 0, .int .i64 0, .int .i64 0, .int .i64 0, .int .i64 0, .slice (some ⟨mk, 0, none⟩) 5 5, .int .i64 0, .int .i64 0, .int .i64 0, .int .i64 0, .int .i64 0, .int .i64 0, .int .i64 0, .int .i64 0, .int .i64 0, .int .i64 0, .int .i64 0, .int .i64 0, .int .i64 480, .int .i64 520, .int .i64 1] _ _ 0 GE.out).trans (show _ = some (.cells #[.string ⟨#[]⟩, .string ⟨#[]⟩, .string ⟨#[]⟩, .string ⟨#[]⟩, .int .i64 0, .int .i64 0, .int .i64 0, .int .i64 0, .int .i64 0, .slice (some ⟨mk, 0, none⟩) 5 5, .int .i64 0, .int .i64 0, .int .i64 0, .int .i64 0, .int .i64 0, .int .i64 0, .int .i64 0, .int .i64 0, .int .i64 0, .int .i64 0, .int .i64 0, .int .i64 0, .int .i64 480, .int .i64 520, .int .i64 1] 43 (0, 0)) from by kernel_rfl))
  have emk : g3 + 1 = mk := by have := HSZ.out; omega
  clear GE hmk eqm
  generalize ((V.alloc (.cells ZZ 30)).alloc (.cells #[.string ⟨#[]⟩, .string ⟨#[]⟩, .string ⟨#[]⟩, .string ⟨#[]⟩, .int .i64 0, .int .i64 0, .int .i64 0, .int .i64 0, .int .i64 0, .slice none 0 0, .int .i64 0, .int .i64 0, .int .i64 0, .int .i64 0, .int .i64 0, .int .i64 0, .int .i64 0, .int .i64 0, .int .i64 0, .int .i64 0, .int .i64 0, .int .i64 0, .int .i64 0, .int .i64 0, .int .i64 0] 43)).setCells (mk + 1) 0 [.string ⟨#[]⟩, .string ⟨#[]⟩, .string ⟨#[]⟩, .string ⟨#[]⟩, .int .i64 0, .int .i64 0, .int .i64 0, .int .i64 0, .int .i64 0, .slice (some ⟨mk, 0, none⟩) 5 5, .int .i64 0, .int .i64 0, .int .i64 0, .int .i64 0, .int .i64 0, .int .i64 0, .int .i64 0, .int .i64 0, .int .i64 0, .int .i64 0, .int .i64 0, .int .i64 0, .int .i64 480, .int .i64 520, .int .i64 1] = V2 at HB G0 G1 G2 G3 G5 ⊢
  have m13 := boxed_at G5.out (i := 13) rfl
  have f13 := frozen_of_row V2 (mk + 1) 13 _ _ G5.out
  go_upto_region 4 with fail
  clear m13 f13
  have HB := hide (HB.out.setCell (p := ⟨mk + 1, 13, none⟩) (show g0 ≤ mk + 1 by omega) (.int .i64 1000))
  have hso := fun k (hk : k ≠ mk + 1) => Below.heap_setCell V2 ⟨mk + 1, 13, none⟩ (.int .i64 1000) k hk
  have G0 := hide ((hso g0 (by omega)).trans G0.out)
  have G1 := hide ((hso (g0 + 1) (by omega)).trans G1.out)
  have G2 := hide ((hso g2 (by omega)).trans G2.out)
  have G3 := hide ((hso g3 (by omega)).trans G3.out)
  have G5 := hide ((setCell_row G5.out (.int .i64 1000) (i := 13)).trans (show _ = some (.cells #[.string ⟨#[]⟩, .string ⟨#[]⟩, .string ⟨#[]⟩, .string ⟨#[]⟩, .int .i64 0, .int .i64 0, .int .i64 0, .int .i64 0, .int .i64 0, .slice (some ⟨mk, 0, none⟩) 5 5, .int .i64 0, .int .i64 0, .int .i64 0, .int .i64 1000, .int .i64 0, .int .i64 0, .int .i64 0, .int .i64 0, .int .i64 0, .int .i64 0, .int .i64 0, .int .i64 0, .int .i64 480, .int .i64 520, .int .i64 1] 43 (0, 0)) from by kernel_rfl))
  clear hso
  generalize V2.setCell ⟨mk + 1, 13, none⟩ (.int .i64 1000) = V3 at HB G0 G1 G2 G3 G5 ⊢
  have q3 : g3 ≠ g0 ∧ g3 ≠ g0 + 1 := by have := EQ2.out; have := EQ3.out; omega
  have q2 : g2 ≠ g0 ∧ g2 ≠ g0 + 1 := by have := EQ2.out; omega
  have q5 : mk + 1 ≠ g0 ∧ mk + 1 ≠ g0 + 1 := by have := EQ2.out; have := EQ3.out; omega
  clear emk
  obtain ⟨g5, eq5⟩ : ∃ g5, mk + 1 = g5 := ⟨_, rfl⟩
  rw [eq5] at G5 q5 ⊢
  obtain ⟨q20, q21⟩ := q2
  obtain ⟨q30, q31⟩ := q3
  obtain ⟨q50, q51⟩ := q5
  refine wp_region_inv2 (fun L a' w' => ∃ u : Nat → Value, a' = { tmps := #[.pointer (some ⟨g0, 0, none⟩), .pointer (some ⟨g0 + 1, 0, none⟩), .pointer (some ⟨g3, 0, none⟩), .pointer (some ⟨g5, 0, none⟩), .agg #[.int .i64 300, .int .i64 3, .int .i64 100, .int .i64 60], .agg #[.int .i64 500, .int .i64 5, .int .i64 100, .int .i64 60], .slice (some ⟨g2, 0, none⟩) 2 2, .agg #[.slice (some ⟨g2, 0, none⟩) 2 2, .int .i64 0, .int .i64 0], .slice (some ⟨mk, 0, none⟩) 5 5, .agg #[.int .i64 480, .int .i64 520], .agg #[.slice (some ⟨mk, 0, none⟩) 5 5, .int .i64 0, .int .i64 0, .int .i64 0, .int .i64 0, .int .i64 0, .int .i64 0, .int .i64 0, .int .i64 0, .int .i64 0, .int .i64 0, .int .i64 0, .int .i64 0, .int .i64 480, .int .i64 520, .int .i64 1], .agg #[.string ⟨#[]⟩, .string ⟨#[]⟩, .string ⟨#[]⟩, .string ⟨#[]⟩, .int .i64 0, .int .i64 0, .int .i64 0, .int .i64 0, .int .i64 0, .slice (some ⟨mk, 0, none⟩) 5 5, .int .i64 0, .int .i64 0, .int .i64 0, .int .i64 0, .int .i64 0, .int .i64 0, .int .i64 0, .int .i64 0, .int .i64 0, .int .i64 0, .int .i64 0, .int .i64 0, .int .i64 480, .int .i64 520, .int .i64 1], .pointer (some ⟨g5, 9, none⟩), .pointer (some ⟨g5, 10, none⟩), .pointer (some ⟨g5, 13, none⟩), u 15, u 16], defers := [] } ∧ SmpC V3 g0 g2 mk L u w') (by kernel_rfl) (by kernel_rfl) ?h0 ?hs ?hd
  case h0 =>
    exact ⟨fun _ => undef, rfl, { low := fun _ _ _ => rfl, sz := Nat.le_refl _, bel := (Below.refl _ _).drew, r0 := G0.out, r1 := G1.out, f0 := fun e => Bool.noConfusion e, f1 := fun e => Bool.noConfusion e }⟩
  case hs =>
    refine (Steps2.cons ?_ (Steps2.cons ?_ (Steps2.cons ?_ (Steps2.cons ?_ Steps2.nil))))
    · intro L a' x hL hcl hc hI K' hK
      obtain ⟨u, rfl, hC⟩ := hI
      have HK := hide hK
      have HC := hide hC
      clear hK hC hc
      refine wp_load_row 24 (.tmp 2) rfl g3 rfl 24 #[.slice (some ⟨g2, 0, none⟩) 2 2, .int .i64 0, .int .i64 0] (0, 0) _ ((HC.out.low g3 (by omega) (by omega)).trans G3.out) Try.underlying24 rfl (by kernel_rfl) ?_
      exact HK.out _ _ ⟨fun s => if s = 15 then .agg #[.slice (some ⟨g2, 0, none⟩) 2 2, .int .i64 0, .int .i64 0] else u s, rfl, { HC.out with f0 := fun _ => rfl }⟩
    · intro L a' x hL hcl hc hI K' hK
      obtain ⟨u, rfl, hC⟩ := hI
      have HK := hide hK
      have HC := hide hC
      clear hK hC hc
      refine wp_load_row 43 (.tmp 3) rfl g5 rfl 43 #[.string ⟨#[]⟩, .string ⟨#[]⟩, .string ⟨#[]⟩, .string ⟨#[]⟩, .int .i64 0, .int .i64 0, .int .i64 0, .int .i64 0, .int .i64 0, .slice (some ⟨mk, 0, none⟩) 5 5, .int .i64 0, .int .i64 0, .int .i64 0, .int .i64 1000, .int .i64 0, .int .i64 0, .int .i64 0, .int .i64 0, .int .i64 0, .int .i64 0, .int .i64 0, .int .i64 0, .int .i64 480, .int .i64 520, .int .i64 1] (0, 0) _ ((HC.out.low g5 (by omega) (by omega)).trans G5.out) Try.underlying43 rfl (by kernel_rfl) ?_
      exact HK.out _ _ ⟨fun s => if s = 16 then .agg #[.string ⟨#[]⟩, .string ⟨#[]⟩, .string ⟨#[]⟩, .string ⟨#[]⟩, .int .i64 0, .int .i64 0, .int .i64 0, .int .i64 0, .int .i64 0, .slice (some ⟨mk, 0, none⟩) 5 5, .int .i64 0, .int .i64 0, .int .i64 0, .int .i64 1000, .int .i64 0, .int .i64 0, .int .i64 0, .int .i64 0, .int .i64 0, .int .i64 0, .int .i64 0, .int .i64 0, .int .i64 480, .int .i64 520, .int .i64 1] else u s, rfl, { HC.out with f1 := fun _ => rfl }⟩
    · intro L a' x hL hcl hc hI K' hK
      obtain ⟨u, rfl, hC⟩ := hI
      have d0 : L 0 = true := hc ⟨0, .data⟩ (by simp) rfl
      have HK := hide hK
      have HC := hide hC
      clear hK hC hc
      have e15 := HC.out.f0 d0
      have HZ := hide (show x.heap[g0]? = some (.cells #[.slice none 0 0, .int .i64 0, .int .i64 0] 24 (0, 0)) from by have h := HC.out.r0; rw [show L 2 = false from hL] at h; exact h)
      refine wp_store_mid 24 (.tmp 0) (.tmp 15) rfl g0 0 #[.slice (some ⟨g2, 0, none⟩) 2 2, .int .i64 0, .int .i64 0] rfl (by simpa [Act.eval] using e15) (there_row HZ.out 0 3 (by simp)) (by kernel_rfl) (by simp [Value.oneCell']) ?_
      have HS := hide ((sets_heap [.slice (some ⟨g2, 0, none⟩) 2 2, .int .i64 0, .int .i64 0] x _ 0 HZ.out).trans (show _ = some (.cells #[.slice (some ⟨g2, 0, none⟩) 2 2, .int .i64 0, .int .i64 0] 24 (0, 0)) from by kernel_rfl))
      have HO := hide (fun k' (hk' : k' ≠ g0) => sets_other hk' [.slice (some ⟨g2, 0, none⟩) 2 2, .int .i64 0, .int .i64 0] x 0)
      have HBL := hide (sets_below (g := g0) [.slice (some ⟨g2, 0, none⟩) 2 2, .int .i64 0, .int .i64 0] x 0)
      exact HK.out _ _ ⟨u, rfl, { HC.out with low := fun k' h1 h2 => (HO.out k' (by omega)).trans (HC.out.low k' h1 h2), sz := Nat.le_trans HC.out.sz HBL.out.size, bel := HC.out.bel.trans (HBL.out.mono (by omega)), r0 := HS.out, r1 := (HO.out _ (by omega)).trans HC.out.r1 }⟩
    · intro L a' x hL hcl hc hI K' hK
      obtain ⟨u, rfl, hC⟩ := hI
      have d1 : L 1 = true := hc ⟨1, .data⟩ (by simp) rfl
      have d2 : L 2 = true := hc ⟨2, .chain⟩ (by simp) rfl
      have HK := hide hK
      have HC := hide hC
      clear hK hC hc
      have e16 := HC.out.f1 d1
      have HZ := hide (show x.heap[(g0 + 1)]? = some (.cells #[.string ⟨#[]⟩, .string ⟨#[]⟩, .string ⟨#[]⟩, .string ⟨#[]⟩, .int .i64 0, .int .i64 0, .int .i64 0, .int .i64 0, .int .i64 0, .slice none 0 0, .int .i64 0, .int .i64 0, .int .i64 0, .int .i64 0, .int .i64 0, .int .i64 0, .int .i64 0, .int .i64 0, .int .i64 0, .int .i64 0, .int .i64 0, .int .i64 0, .int .i64 0, .int .i64 0, .int .i64 0] 43 (0, 0)) from by have h := HC.out.r1; rw [show L 3 = false from hL] at h; exact h)
      refine wp_store_mid 43 (.tmp 1) (.tmp 16) rfl (g0 + 1) 0 #[.string ⟨#[]⟩, .string ⟨#[]⟩, .string ⟨#[]⟩, .string ⟨#[]⟩, .int .i64 0, .int .i64 0, .int .i64 0, .int .i64 0, .int .i64 0, .slice (some ⟨mk, 0, none⟩) 5 5, .int .i64 0, .int .i64 0, .int .i64 0, .int .i64 1000, .int .i64 0, .int .i64 0, .int .i64 0, .int .i64 0, .int .i64 0, .int .i64 0, .int .i64 0, .int .i64 0, .int .i64 480, .int .i64 520, .int .i64 1] rfl (by simpa [Act.eval] using e16) (there_row HZ.out 0 25 (by simp)) (by kernel_rfl) (by simp [Value.oneCell']) ?_
      have HS := hide ((sets_heap [.string ⟨#[]⟩, .string ⟨#[]⟩, .string ⟨#[]⟩, .string ⟨#[]⟩, .int .i64 0, .int .i64 0, .int .i64 0, .int .i64 0, .int .i64 0, .slice (some ⟨mk, 0, none⟩) 5 5, .int .i64 0, .int .i64 0, .int .i64 0, .int .i64 1000, .int .i64 0, .int .i64 0, .int .i64 0, .int .i64 0, .int .i64 0, .int .i64 0, .int .i64 0, .int .i64 0, .int .i64 480, .int .i64 520, .int .i64 1] x _ 0 HZ.out).trans (show _ = some (.cells #[.string ⟨#[]⟩, .string ⟨#[]⟩, .string ⟨#[]⟩, .string ⟨#[]⟩, .int .i64 0, .int .i64 0, .int .i64 0, .int .i64 0, .int .i64 0, .slice (some ⟨mk, 0, none⟩) 5 5, .int .i64 0, .int .i64 0, .int .i64 0, .int .i64 1000, .int .i64 0, .int .i64 0, .int .i64 0, .int .i64 0, .int .i64 0, .int .i64 0, .int .i64 0, .int .i64 0, .int .i64 480, .int .i64 520, .int .i64 1] 43 (0, 0)) from by kernel_rfl))
      have HO := hide (fun k' (hk' : k' ≠ (g0 + 1)) => sets_other hk' [.string ⟨#[]⟩, .string ⟨#[]⟩, .string ⟨#[]⟩, .string ⟨#[]⟩, .int .i64 0, .int .i64 0, .int .i64 0, .int .i64 0, .int .i64 0, .slice (some ⟨mk, 0, none⟩) 5 5, .int .i64 0, .int .i64 0, .int .i64 0, .int .i64 1000, .int .i64 0, .int .i64 0, .int .i64 0, .int .i64 0, .int .i64 0, .int .i64 0, .int .i64 0, .int .i64 0, .int .i64 480, .int .i64 520, .int .i64 1] x 0)
      have HBL := hide (sets_below (g := (g0 + 1)) [.string ⟨#[]⟩, .string ⟨#[]⟩, .string ⟨#[]⟩, .string ⟨#[]⟩, .int .i64 0, .int .i64 0, .int .i64 0, .int .i64 0, .int .i64 0, .slice (some ⟨mk, 0, none⟩) 5 5, .int .i64 0, .int .i64 0, .int .i64 0, .int .i64 1000, .int .i64 0, .int .i64 0, .int .i64 0, .int .i64 0, .int .i64 0, .int .i64 0, .int .i64 0, .int .i64 0, .int .i64 480, .int .i64 520, .int .i64 1] x 0)
      exact HK.out _ _ ⟨u, rfl, { HC.out with low := fun k' h1 h2 => (HO.out k' (by omega)).trans (HC.out.low k' h1 h2), sz := Nat.le_trans HC.out.sz HBL.out.size, bel := HC.out.bel.trans (HBL.out.mono (by omega)), r1 := HS.out, r0 := (HO.out _ (by omega)).trans HC.out.r0 }⟩
  case hd =>
    rintro L a' x hall ⟨u, rfl, hC⟩
    have R0 := hC.r0
    have R1 := hC.r1
    rw [hall 2 (by decide), if_pos rfl] at R0
    rw [hall 3 (by decide), if_pos rfl] at R1
    have X2 := (hC.low g2 q20 q21).trans G2.out
    have BEL := HB.out.trans hC.bel
    clear hC hall
    subst eq5
    have HX := hide X2
    have HBE := hide BEL
    clear X2 BEL
    go_wp2_with fail
    (try simp only [Exit.inBlock, Exit.then])
    refine bodyPost_ret (v := .tuple #[.agg #[.slice (some ⟨g2, 0, none⟩) 2 2, .int .i64 0, .int .i64 0], .agg #[.string ⟨#[]⟩, .string ⟨#[]⟩, .string ⟨#[]⟩, .string ⟨#[]⟩, .int .i64 0, .int .i64 0, .int .i64 0, .int .i64 0, .int .i64 0, .slice (some ⟨mk, 0, none⟩) 5 5, .int .i64 0, .int .i64 0, .int .i64 0, .int .i64 1000, .int .i64 0, .int .i64 0, .int .i64 0, .int .i64 0, .int .i64 0, .int .i64 0, .int .i64 0, .int .i64 0, .int .i64 480, .int .i64 520, .int .i64 1]]) (results_cell_row2 (by rfl) _ x g0 (g0 + 1) 24 43 _ _ (0, 0) (0, 0) _ _ (by rfl) R0 Try.underlying24 rfl (by kernel_rfl) (by rfl) R1 Try.underlying43 rfl (by kernel_rfl)) rfl ⟨⟨g2, mk, rfl, ?_⟩, ?_⟩
    · refine ⟨rfl, .inr ⟨g2, 0, rfl, fun i hi => ?_⟩⟩
      match i, hi with
      | 0, _ => exact ⟨boxed_at HX.out rfl, boxed_at HX.out rfl, boxed_at HX.out rfl, boxed_at HX.out rfl⟩
      | 1, _ => exact ⟨boxed_at HX.out rfl, boxed_at HX.out rfl, boxed_at HX.out rfl, boxed_at HX.out rfl⟩
    · rw [← EQ0.out] at HBE
      exact HBE.out

theorem tim_s (mk : Nat) (now : Int) (h : 0 ≤ now ∧ now ≤ 2000) : timB [rs1, rs2] 0 0 (evS mk) now = decide (1000 ≤ now ∧ now ≤ 1060) := by
  unfold timB
  have hw : wrap64 (now - 1000) = now - 1000 := IntWalk.wrap64_in _ (by omega)
  refine decide_eq_decide.2 ?_
  show ((1 : Nat) ≠ 0 ∧ 0 ≤ wrap64 (now - 1000) ∧ wrap64 (now - 1000) ≤ 60) ↔ _
  rw [hw]
  omega
/-- A whole block is read, at an operation whose guard holds. -/
theorem wpList_load_rowG {P : Program} {ops : Array Oper} {rest : List Oper} {o : Oper} {a : Act} {w : World} {Q : Exit → Act → World → Prop} (hw : Region.wanted o (yielded ops a.tmps) = true) (ty : TypeId) (x : Operand) (ho : o.op = .load ty x)
    (g : Nat) (hx : a.eval x = .pointer (some ⟨g, 0, none⟩)) (t : TypeId) (cs : Array Value) (fr : Nat × Nat) (d : TypeDesc) (hg : w.heap[g]? = some (.cells cs t fr))
    (hu : P.underlying ty = some d) (hd : (match d with | .struct _ | .array _ _ => true | _ => false) = true) (hi : (P.info? ty).map (·.size) = some cs.size)
    (h : wpList P ops Q rest (a.put o.dst (.agg cs)) w) : wpList P ops Q (o :: rest) a w :=
  BigFrame.wpList_want hw fun K hK => wp_load_row ty x ho g hx t cs fr d hg hu hd hi (hK _ _ h)

set_option maxHeartbeats 8000000 in
set_option maxRecDepth 100000 in
theorem rule_awake (w : World) :
    Calls Try.prog 8 #[] w fun en w' => en = .returned (.bool true) ∧ Below w.heap.size w w' := by
  have QS := hide (rule_sample w)
  have QV := hide (fun (sb mk : Nat) (V : World) (hV : RlRow V (some ⟨sb, 0, none⟩) 2 [rs1, rs2]) => (show Calls Try.prog 13 #[.agg #[.slice (some ⟨sb, 0, none⟩) 2 2, .int .i64 0, .int .i64 0]] V fun en w' => en = .returned (.int .i64 0) ∧ Below V.heap.size V w' from rule_validate [rs1, rs2] 0 0 (some ⟨sb, 0, none⟩) 2 2 V hV))
  have QL := hide (fun (sb mk : Nat) (V : World) (hV : RlRow V (some ⟨sb, 0, none⟩) 2 [rs1, rs2]) => (show Calls Try.prog 15 #[.agg #[.slice (some ⟨sb, 0, none⟩) 2 2, .int .i64 0, .int .i64 0], .agg #[.string ⟨#[]⟩, .string ⟨#[]⟩, .string ⟨#[]⟩, .string ⟨#[]⟩, .int .i64 0, .int .i64 0, .int .i64 0, .int .i64 0, .int .i64 0, .slice (some ⟨mk, 0, none⟩) 5 5, .int .i64 0, .int .i64 0, .int .i64 0, .int .i64 1000, .int .i64 0, .int .i64 0, .int .i64 0, .int .i64 0, .int .i64 0, .int .i64 0, .int .i64 0, .int .i64 0, .int .i64 480, .int .i64 520, .int .i64 1]] V fun en w' => en = .returned (.int .i64 1) ∧ Below V.heap.size V w' from rule_level [rs1, rs2] 0 0 (some ⟨sb, 0, none⟩) 2 2 (by omega) (evS mk) V hV))
  have QT1 := hide (fun (sb mk : Nat) (V : World) (hV : RlRow V (some ⟨sb, 0, none⟩) 2 [rs1, rs2]) => (show Calls Try.prog 21 #[.agg #[.slice (some ⟨sb, 0, none⟩) 2 2, .int .i64 0, .int .i64 0], .agg #[.string ⟨#[]⟩, .string ⟨#[]⟩, .string ⟨#[]⟩, .string ⟨#[]⟩, .int .i64 0, .int .i64 0, .int .i64 0, .int .i64 0, .int .i64 0, .slice (some ⟨mk, 0, none⟩) 5 5, .int .i64 0, .int .i64 0, .int .i64 0, .int .i64 1000, .int .i64 0, .int .i64 0, .int .i64 0, .int .i64 0, .int .i64 0, .int .i64 0, .int .i64 0, .int .i64 0, .int .i64 480, .int .i64 520, .int .i64 1], .int .i64 1060] V fun en w' => en = .returned (.bool true) ∧ Below V.heap.size V w' from (show timB [rs1, rs2] 0 0 (evS mk) 1060 = true from (tim_s mk 1060 (by omega)).trans (by decide)) ▸ rule_timely [rs1, rs2] 0 0 (some ⟨sb, 0, none⟩) 2 2 (by omega) (evS mk) 1060 V hV))
  have QT2 := hide (fun (sb mk : Nat) (V : World) (hV : RlRow V (some ⟨sb, 0, none⟩) 2 [rs1, rs2]) => (show Calls Try.prog 21 #[.agg #[.slice (some ⟨sb, 0, none⟩) 2 2, .int .i64 0, .int .i64 0], .agg #[.string ⟨#[]⟩, .string ⟨#[]⟩, .string ⟨#[]⟩, .string ⟨#[]⟩, .int .i64 0, .int .i64 0, .int .i64 0, .int .i64 0, .int .i64 0, .slice (some ⟨mk, 0, none⟩) 5 5, .int .i64 0, .int .i64 0, .int .i64 0, .int .i64 1000, .int .i64 0, .int .i64 0, .int .i64 0, .int .i64 0, .int .i64 0, .int .i64 0, .int .i64 0, .int .i64 0, .int .i64 480, .int .i64 520, .int .i64 1], .int .i64 1061] V fun en w' => en = .returned (.bool false) ∧ Below V.heap.size V w' from (show timB [rs1, rs2] 0 0 (evS mk) 1061 = false from (tim_s mk 1061 (by omega)).trans (by decide)) ▸ rule_timely [rs1, rs2] 0 0 (some ⟨sb, 0, none⟩) 2 2 (by omega) (evS mk) 1061 V hV))
  have QT3 := hide (fun (sb mk : Nat) (V : World) (hV : RlRow V (some ⟨sb, 0, none⟩) 2 [rs1, rs2]) => (show Calls Try.prog 21 #[.agg #[.slice (some ⟨sb, 0, none⟩) 2 2, .int .i64 0, .int .i64 0], .agg #[.string ⟨#[]⟩, .string ⟨#[]⟩, .string ⟨#[]⟩, .string ⟨#[]⟩, .int .i64 0, .int .i64 0, .int .i64 0, .int .i64 0, .int .i64 0, .slice (some ⟨mk, 0, none⟩) 5 5, .int .i64 0, .int .i64 0, .int .i64 0, .int .i64 1000, .int .i64 0, .int .i64 0, .int .i64 0, .int .i64 0, .int .i64 0, .int .i64 0, .int .i64 0, .int .i64 0, .int .i64 480, .int .i64 520, .int .i64 1], .int .i64 999] V fun en w' => en = .returned (.bool false) ∧ Below V.heap.size V w' from (show timB [rs1, rs2] 0 0 (evS mk) 999 = false from (tim_s mk 999 (by omega)).trans (by decide)) ▸ rule_timely [rs1, rs2] 0 0 (some ⟨sb, 0, none⟩) 2 2 (by omega) (evS mk) 999 V hV))
  have QM := hide (fun (sb mk : Nat) (V : World) (hV : RlRow V (some ⟨sb, 0, none⟩) 2 [rs1, rs2]) => (show Calls Try.prog 23 #[.agg #[.slice (some ⟨sb, 0, none⟩) 2 2, .int .i64 0, .int .i64 0], .agg #[.string ⟨#[]⟩, .string ⟨#[]⟩, .string ⟨#[]⟩, .string ⟨#[]⟩, .int .i64 0, .int .i64 0, .int .i64 0, .int .i64 0, .int .i64 0, .slice (some ⟨mk, 0, none⟩) 5 5, .int .i64 0, .int .i64 0, .int .i64 0, .int .i64 1000, .int .i64 0, .int .i64 0, .int .i64 0, .int .i64 0, .int .i64 0, .int .i64 0, .int .i64 0, .int .i64 0, .int .i64 480, .int .i64 520, .int .i64 1], .agg #[.string ⟨#[]⟩, .string ⟨#[]⟩, .string ⟨#[]⟩, .string ⟨#[]⟩, .int .i64 0, .int .i64 0, .int .i64 0, .int .i64 0, .int .i64 0, .slice (some ⟨mk, 0, none⟩) 5 5, .int .i64 0, .int .i64 0, .int .i64 0, .int .i64 1000, .int .i64 0, .int .i64 0, .int .i64 0, .int .i64 0, .int .i64 0, .int .i64 0, .int .i64 0, .int .i64 0, .int .i64 480, .int .i64 520, .int .i64 1]] V fun en w' => en = .returned (.bool false) ∧ Below V.heap.size V w' from (show movB [rs1, rs2] 0 0 (evS mk) (evS mk) = false from rfl) ▸ rule_moved [rs1, rs2] 0 0 (some ⟨sb, 0, none⟩) 2 2 (by omega) (evS mk) (evS mk) (by show _ ≤ (1000 : Int) ∧ (1000 : Int) ≤ _; omega) (by show _ ≤ (1000 : Int) ∧ (1000 : Int) ≤ _; omega) V hV))
  go_enter Try.func8, Try.ntmps8
  go_upto_region 2 with (first
    | (go_at_call 25; (with_reducible refine (QS.out).mono ?_); rintro en w1 ⟨⟨sb, mk, rfl, hr⟩, hb⟩; (have HB := hide hb); (have HR := hide hr); (have GE := hide (new_at (w := w1.alloc (.cells #[.slice (some ⟨sb, 0, none⟩) 2 2, .int .i64 0, .int .i64 0] 24)) (.cells #[.string ⟨#[]⟩, .string ⟨#[]⟩, .string ⟨#[]⟩, .string ⟨#[]⟩, .int .i64 0, .int .i64 0, .int .i64 0, .int .i64 0, .int .i64 0, .slice none 0 0, .int .i64 0, .int .i64 0, .int .i64 0, .int .i64 0, .int .i64 0, .int .i64 0, .int .i64 0, .int .i64 0, .int .i64 0, .int .i64 0, .int .i64 0, .int .i64 0, .int .i64 0, .int .i64 0, .int .i64 0] 43) (g := w1.heap.size + 1) (by simp))); clear hb hr)
    | (refine wpList_store_mid (by rfl) 43 (.tmp 2) (.tmp 6) (by rfl) (w1.heap.size + 1) 0 #[.string ⟨#[]⟩, .string ⟨#[]⟩, .string ⟨#[]⟩, .string ⟨#[]⟩, .int .i64 0, .int .i64 0, .int .i64 0, .int .i64 0, .int .i64 0, .slice (some ⟨mk, 0, none⟩) 5 5, .int .i64 0, .int .i64 0, .int .i64 0, .int .i64 1000, .int .i64 0, .int .i64 0, .int .i64 0, .int .i64 0, .int .i64 0, .int .i64 0, .int .i64 0, .int .i64 0, .int .i64 480, .int .i64 520, .int .i64 1] (by rfl) (by rfl) (there_row GE.out 0 25 (by simp)) (by kernel_rfl) (by simp [Value.oneCell']) ?_))
  simp only [Act.put]
  have HV := hide (((below2 (w := w1) (.cells #[.slice (some ⟨sb, 0, none⟩) 2 2, .int .i64 0, .int .i64 0] 24) (.cells #[.string ⟨#[]⟩, .string ⟨#[]⟩, .string ⟨#[]⟩, .string ⟨#[]⟩, .int .i64 0, .int .i64 0, .int .i64 0, .int .i64 0, .int .i64 0, .slice none 0 0, .int .i64 0, .int .i64 0, .int .i64 0, .int .i64 0, .int .i64 0, .int .i64 0, .int .i64 0, .int .i64 0, .int .i64 0, .int .i64 0, .int .i64 0, .int .i64 0, .int .i64 0, .int .i64 0, .int .i64 0] 43)).trans ((sets_below (g := w1.heap.size + 1) [.string ⟨#[]⟩, .string ⟨#[]⟩, .string ⟨#[]⟩, .string ⟨#[]⟩, .int .i64 0, .int .i64 0, .int .i64 0, .int .i64 0, .int .i64 0, .slice (some ⟨mk, 0, none⟩) 5 5, .int .i64 0, .int .i64 0, .int .i64 0, .int .i64 1000, .int .i64 0, .int .i64 0, .int .i64 0, .int .i64 0, .int .i64 0, .int .i64 0, .int .i64 0, .int .i64 0, .int .i64 480, .int .i64 520, .int .i64 1] _ 0).mono (Nat.le_succ _))))
  have GP := hide ((sets_other (show w1.heap.size ≠ w1.heap.size + 1 by omega) [.string ⟨#[]⟩, .string ⟨#[]⟩, .string ⟨#[]⟩, .string ⟨#[]⟩, .int .i64 0, .int .i64 0, .int .i64 0, .int .i64 0, .int .i64 0, .slice (some ⟨mk, 0, none⟩) 5 5, .int .i64 0, .int .i64 0, .int .i64 0, .int .i64 1000, .int .i64 0, .int .i64 0, .int .i64 0, .int .i64 0, .int .i64 0, .int .i64 0, .int .i64 0, .int .i64 0, .int .i64 480, .int .i64 520, .int .i64 1] _ 0).trans (pair_alloc (heap_alloc_new w1 (.cells #[.slice (some ⟨sb, 0, none⟩) 2 2, .int .i64 0, .int .i64 0] 24)) (.cells #[.string ⟨#[]⟩, .string ⟨#[]⟩, .string ⟨#[]⟩, .string ⟨#[]⟩, .int .i64 0, .int .i64 0, .int .i64 0, .int .i64 0, .int .i64 0, .slice none 0 0, .int .i64 0, .int .i64 0, .int .i64 0, .int .i64 0, .int .i64 0, .int .i64 0, .int .i64 0, .int .i64 0, .int .i64 0, .int .i64 0, .int .i64 0, .int .i64 0, .int .i64 0, .int .i64 0, .int .i64 0] 43)))
  have GE := hide ((sets_heap [.string ⟨#[]⟩, .string ⟨#[]⟩, .string ⟨#[]⟩, .string ⟨#[]⟩, .int .i64 0, .int .i64 0, .int .i64 0, .int .i64 0, .int .i64 0, .slice (some ⟨mk, 0, none⟩) 5 5, .int .i64 0, .int .i64 0, .int .i64 0, .int .i64 1000, .int .i64 0, .int .i64 0, .int .i64 0, .int .i64 0, .int .i64 0, .int .i64 0, .int .i64 0, .int .i64 0, .int .i64 480, .int .i64 520, .int .i64 1] _ _ 0 GE.out).trans (show _ = some (.cells #[.string ⟨#[]⟩, .string ⟨#[]⟩, .string ⟨#[]⟩, .string ⟨#[]⟩, .int .i64 0, .int .i64 0, .int .i64 0, .int .i64 0, .int .i64 0, .slice (some ⟨mk, 0, none⟩) 5 5, .int .i64 0, .int .i64 0, .int .i64 0, .int .i64 1000, .int .i64 0, .int .i64 0, .int .i64 0, .int .i64 0, .int .i64 0, .int .i64 0, .int .i64 0, .int .i64 0, .int .i64 480, .int .i64 520, .int .i64 1] 43 (0, 0)) from by kernel_rfl))
  have HR := hide (HR.out.keep HV.out)
  have HL := hide (HB.out.trans (HV.out.mono HB.out.size))
  clear HV HB
  generalize ((w1.alloc (.cells #[.slice (some ⟨sb, 0, none⟩) 2 2, .int .i64 0, .int .i64 0] 24)).alloc (.cells #[.string ⟨#[]⟩, .string ⟨#[]⟩, .string ⟨#[]⟩, .string ⟨#[]⟩, .int .i64 0, .int .i64 0, .int .i64 0, .int .i64 0, .int .i64 0, .slice none 0 0, .int .i64 0, .int .i64 0, .int .i64 0, .int .i64 0, .int .i64 0, .int .i64 0, .int .i64 0, .int .i64 0, .int .i64 0, .int .i64 0, .int .i64 0, .int .i64 0, .int .i64 0, .int .i64 0, .int .i64 0] 43)).setCells (w1.heap.size + 1) 0 [.string ⟨#[]⟩, .string ⟨#[]⟩, .string ⟨#[]⟩, .string ⟨#[]⟩, .int .i64 0, .int .i64 0, .int .i64 0, .int .i64 0, .int .i64 0, .slice (some ⟨mk, 0, none⟩) 5 5, .int .i64 0, .int .i64 0, .int .i64 0, .int .i64 1000, .int .i64 0, .int .i64 0, .int .i64 0, .int .i64 0, .int .i64 0, .int .i64 0, .int .i64 0, .int .i64 0, .int .i64 480, .int .i64 520, .int .i64 1] = V at GP GE HR HL ⊢
  generalize w1.heap.size = q1 at GP GE ⊢
  obtain ⟨c0, c1, c2, -, -, -⟩ := tri_cells GP.out
  go_wp2_with (first
    | (refine wpList_load_rowG (by rfl) 43 (.tmp 2) (by rfl) (q1 + 1) (by rfl) 43 #[.string ⟨#[]⟩, .string ⟨#[]⟩, .string ⟨#[]⟩, .string ⟨#[]⟩, .int .i64 0, .int .i64 0, .int .i64 0, .int .i64 0, .int .i64 0, .slice (some ⟨mk, 0, none⟩) 5 5, .int .i64 0, .int .i64 0, .int .i64 0, .int .i64 1000, .int .i64 0, .int .i64 0, .int .i64 0, .int .i64 0, .int .i64 0, .int .i64 0, .int .i64 0, .int .i64 0, .int .i64 480, .int .i64 520, .int .i64 1] (0, 0) _ GE.out Try.underlying43 rfl (by kernel_rfl) ?_)
    | (go_at_call 13; (with_reducible refine (QV.out _ mk _ HR.out).mono ?_); rintro en v1 ⟨rfl, hb⟩; (have GP := hide ((hb.block _ (Array.getElem?_eq_some_iff.1 GP.out).1).trans GP.out)); (have GE := hide ((hb.block _ (Array.getElem?_eq_some_iff.1 GE.out).1).trans GE.out)); (have HR := hide (HR.out.keep hb)); (have HL := hide (HL.out.trans (hb.mono HL.out.size))); (obtain ⟨c0, c1, c2, -, -, -⟩ := tri_cells GP.out); clear hb)
    | (go_at_call 15; (with_reducible refine (QL.out _ _ _ HR.out).mono ?_); rintro en v2 ⟨rfl, hb⟩; (have GP := hide ((hb.block _ (Array.getElem?_eq_some_iff.1 GP.out).1).trans GP.out)); (have GE := hide ((hb.block _ (Array.getElem?_eq_some_iff.1 GE.out).1).trans GE.out)); (have HR := hide (HR.out.keep hb)); (have HL := hide (HL.out.trans (hb.mono HL.out.size))); (obtain ⟨c0, c1, c2, -, -, -⟩ := tri_cells GP.out); clear hb)
    | (go_at_call 21; (with_reducible refine (QT1.out _ _ _ HR.out).mono ?_); rintro en v3 ⟨rfl, hb⟩; (have GP := hide ((hb.block _ (Array.getElem?_eq_some_iff.1 GP.out).1).trans GP.out)); (have GE := hide ((hb.block _ (Array.getElem?_eq_some_iff.1 GE.out).1).trans GE.out)); (have HR := hide (HR.out.keep hb)); (have HL := hide (HL.out.trans (hb.mono HL.out.size))); (obtain ⟨c0, c1, c2, -, -, -⟩ := tri_cells GP.out); clear hb)
    | (go_at_call 21; (with_reducible refine (QT2.out _ _ _ HR.out).mono ?_); rintro en v4 ⟨rfl, hb⟩; (have GP := hide ((hb.block _ (Array.getElem?_eq_some_iff.1 GP.out).1).trans GP.out)); (have GE := hide ((hb.block _ (Array.getElem?_eq_some_iff.1 GE.out).1).trans GE.out)); (have HR := hide (HR.out.keep hb)); (have HL := hide (HL.out.trans (hb.mono HL.out.size))); (obtain ⟨c0, c1, c2, -, -, -⟩ := tri_cells GP.out); clear hb)
    | (go_at_call 21; (with_reducible refine (QT3.out _ _ _ HR.out).mono ?_); rintro en v5 ⟨rfl, hb⟩; (have GP := hide ((hb.block _ (Array.getElem?_eq_some_iff.1 GP.out).1).trans GP.out)); (have GE := hide ((hb.block _ (Array.getElem?_eq_some_iff.1 GE.out).1).trans GE.out)); (have HR := hide (HR.out.keep hb)); (have HL := hide (HL.out.trans (hb.mono HL.out.size))); (obtain ⟨c0, c1, c2, -, -, -⟩ := tri_cells GP.out); clear hb)
    | (go_at_call 23; (with_reducible refine (QM.out _ _ _ HR.out).mono ?_); rintro en v6 ⟨rfl, hb⟩; (have GP := hide ((hb.block _ (Array.getElem?_eq_some_iff.1 GP.out).1).trans GP.out)); (have GE := hide ((hb.block _ (Array.getElem?_eq_some_iff.1 GE.out).1).trans GE.out)); (have HR := hide (HR.out.keep hb)); (have HL := hide (HL.out.trans (hb.mono HL.out.size))); (obtain ⟨c0, c1, c2, -, -, -⟩ := tri_cells GP.out); clear hb))
  go_ret
  exact ⟨rfl, HL.out⟩

end Go.Proofs.Ytlhphhiodckaaaa
