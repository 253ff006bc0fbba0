/- From functions without memory to the model's calls: the claim's side. -/
import Derived.Test.YtdmedeaknnldcaaGreatDoorSymQ
import Derived.OpenShut
import Derived.ChangeSlices
namespace Go.Proofs.YtdmedeaknnldcaaGreatDoor
open Go.RowKit
set_option linter.unusedVariables false
set_option linter.unusedSimpArgs false
set_option linter.unnecessarySimpa false
/-- Whatever lies in the world at the beginning. -/
def memOf (w : World) : Mem := fun g o => w.cell? ⟨g, o, none⟩
theorem CallOk.calls {P : Program} {f : FuncId} {args : List AV} {v : Value} (h : CallOk P f args [] ⟨.v v, [], none, [], [], []⟩) (W : World) (cargs : Array Value) (hsz : cargs.size = args.length) (hr : ∀ i (h : i < cargs.size) (h' : i < args.length), Rd (memOf W) (gsR []) sig0 cargs[i] args[i]) (hgl : GlOk (memOf W) W [] (InT sig0 []) := by exact fun g cs hg => by cases hg) :
    Calls P f cargs W fun e w' => e = .returned v ∧ Below W.heap.size W w' := by
  refine (h.2 (memOf W) W cargs [] sig0 hgl (fun _ _ _ h => h) (fun k g h => by cases h) (fun i j g h => by cases h) rfl hsz hr (fun k h => by cases h) (fun k h => by cases h) ⟨(fun t h => by cases h), (fun t sp h => by cases h), (fun t h => by cases h)⟩).mono fun e w' ⟨c, M', σ', gn, he, left⟩ => ?_
  have hv := left.val
  refine ⟨by rw [he, hv.v_inv], left.frm.os, left.frm.tape, left.frm.output, left.frm.size, fun k hk => left.frm.block k hk (fun h => by cases h) (fun ⟨t, h, _⟩ => by cases h)⟩
/-- A slice of ints that came in. -/
def IntsIn (W : World) (v : Value) : Prop := ∃ xs : List Int, (∀ x ∈ xs, -9223372036854775808 ≤ x ∧ x ≤ 9223372036854775807) ∧ xs.length ≤ 9223372036854775807 ∧ ∀ ρ σ, Rd (memOf W) ρ σ v (.list 1 (xs.map fun x => [.v (.int .i64 x)]) none)
theorem ints_nil (W : World) : IntsIn W (.slice none 0 0) := ⟨[], fun x h => (by cases h), by simp, fun ρ σ => .nil⟩
theorem slice_spot {P : Program} {w : World} {r : Reach} {base : Nat} {t e : TypeId} (ht : P.underlying t = some (.slice e)) {a : Addr} {l c : Nat} (h : Value.okWide P w r base t (.slice (some a) l c)) : a.spot = none := by
  simp [Value.okWide, ht, Cell.okWide, Cell.ok, World.has] at h
  exact h.2.2.2.1
theorem ints_of {w : World} {x : Addr} {len cap : Nat} {zs : List Int} (hs : x.spot = none) (hl : len ≤ zs.length) (hlc : len ≤ cap) (hm : cap ≤ maxLen) (hcell : ∀ i, i < zs.length → w.cell? (x.add i) = some (.int .i64 (zs.getD i 0))) (hwz : ∀ n ∈ zs, (Lit.int .i64 n).wf = true) : IntsIn w (.slice (some x) len cap) := by
  have hb : ∀ n ∈ zs, -9223372036854775808 ≤ n ∧ n ≤ 9223372036854775807 := fun n hn => by
    have := hwz n hn
    simpa [Lit.wf, IntKind.min, IntKind.max, IntKind.bits, show IntKind.i64.signed = true from rfl] using this
  obtain ⟨b, off, spot⟩ := x
  dsimp only at hs
  subst hs
  refine ⟨zs.take len, fun n hn => hb n (List.mem_of_mem_take hn), by simp [maxLen] at hm ⊢; omega, fun ρ σ => .list (fun i j => .int .i64 (zs.getD i 0)) (by simp; omega) hlc (fun i h => by simp) (fun i j hi hj => ?_) (fun i j => rfl) (fun i j h h' => ?_) .none⟩
  · have hj0 : j = 0 := by omega
    subst hj0
    have hi' : i < zs.length := by simp at hi; omega
    have := hcell i hi'
    show w.cell? ⟨b, off + i * 1 + 0, none⟩ = _
    by_cases hi0 : i = 0
    · subst hi0; simpa [Addr.add] using this
    · simpa [Addr.add, hi0] using this
  · have hj0 : j = 0 := by simp at h'; exact h'
    subst hj0
    have hi' : i < zs.length := by simp at h; omega
    simp [List.getD_eq_getElem?_getD, List.getElem?_eq_getElem hi']
    exact .v
end Go.Proofs.YtdmedeaknnldcaaGreatDoor
