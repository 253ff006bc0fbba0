/- An owned row of bytes as a string; reading an owned row. -/
import Derived.Test.YtpniokkllkjhhaaOwn
namespace Go.Proofs.Ytpniokkllkjhhaa
open Go.RowKit
set_option linter.unusedVariables false

def byteVals (l : List UInt8) : List Value := l.map fun b => .int .u8 (b.toNat : Int)
theorem byteVals_append (a b : List UInt8) : byteVals (a ++ b) = byteVals a ++ byteVals b := by simp [byteVals]
section
variable {P : Program} {w : World}
theorem run_convert_Own (src dst e : TypeId) (B : Nat) (hs : P.underlying src = some (.slice e)) (he : P.underlying e = some (.int .u8)) (hd : P.underlying dst = some .string)
    (v : Value) (n : Nat) (l : List UInt8) (hown : Own w B e 1 v n (byteVals l)) : (convert src dst v).run P w = .ok (.string ⟨l.toArray⟩) w := by
  have h0 := hown
  obtain ⟨hl, h⟩ := hown
  rcases h with ⟨rfl, rfl⟩ | ⟨g, cap, cur, fr, rfl, h2, h3, h4, h5, h6, h7, h8⟩
  · have : l = [] := by
      have h1 : l.length = 0 := by simpa [byteVals] using hl
      exact List.eq_nil_of_length_eq_zero h1
    subst this
    exact run_convert_bytes_nil (P := P) (w := w) src e hs he 0 0 dst hd
  · have hn : l.length = n := by simpa [byteVals] using hl
    subst hn
    refine run_convert_bytes_back (P := P) w src dst e ⟨g, 0, none⟩ cap l hs he hd (fun j hj => ?_)
    refine ((h0.cells rfl).2 _ rfl).2 j _ ?_
    simp [byteVals, hj]
theorem wpList_Own_string {ops : Array Oper} {rest : List Oper} {o : Oper} {a : Act} {Q : Exit → Act → World → Prop} (hgd : o.guard = none) (src dst e : TypeId) (x : Operand) (ho : o.op = .convert src dst x) (B : Nat)
    (hs : P.underlying src = some (.slice e)) (he : P.underlying e = some (.int .u8)) (hd : P.underlying dst = some .string)
    (v : Value) (n : Nat) (l : List UInt8) (hown : Own w B e 1 v n (byteVals l)) (hx : a.eval x = v)
    (h : wpList P ops Q rest (a.put o.dst (.string ⟨l.toArray⟩)) w) : wpList P ops Q (o :: rest) a w := by
  refine wpList_plain hgd fun _ hK => ?_
  have hr := run_convert_Own (P := P) src dst e B hs he hd v n l hown
  unfold Oper.wp execOp
  simp only [ho, hx, Sem.run_bind, hr, Result.andThen_ok]
  exact hK _ _ h
/-- '[]byte(s)': a row of the call's own. -/
theorem wpList_string_Own {ops : Array Oper} {rest : List Oper} {o : Oper} {a : Act} {Q : Exit → Act → World → Prop} (hgd : o.guard = none) (src dst e : TypeId) (x : Operand) (ho : o.op = .convert src dst x)
    (hs : P.underlying src = some .string) (hd : P.underlying dst = some (.slice e)) (he : P.underlying e = some (.int .u8))
    (s : ByteArray) (hx : a.eval x = .string s) (hm : s.size ≤ maxLen)
    (h : ∀ v w', Own w' w.heap.size e 1 v s.size (byteVals s.data.toList) → Below w.heap.size w w' → wpList P ops Q rest (a.put o.dst v) w') : wpList P ops Q (o :: rest) a w := by
  refine wpList_plain hgd fun _ hK => ?_
  have hr := run_bytes_of_string (P := P) w src dst e s hs hd he
  have hle := le_grownCap w s.size 0 e
  have hcm := grownCap_le_maxLen w s.size 0 e hm
  have hsz : (bytesRow s (grownCap w s.size 0 e)).size = grownCap w s.size 0 e := by rw [bytesRow_eq]; exact brow_size (by simpa using hle)
  rw [hsz] at hr
  unfold Oper.wp execOp
  simp only [ho, hx, Sem.run_bind, hr, Result.andThen_ok]
  refine hK _ _ (h _ _ ?_ ((Below.refl _ _).drew.alloc (Nat.le_refl _) _))
  exact Own.bytes (heap_alloc_new w.drew _) (Nat.le_refl _) hle hcm
end

/-- 'append(out, x)' of one element: what the walk has laid for it is a new block of its cells. -/
theorem wpList_append_elem {P : Program} (w : World) {ops : Array Oper} {rest : List Oper} {o : Oper} {a : Act} {Q : Exit → Act → World → Prop} (hgd : o.guard = none) (s x : Operand) (t : TypeId)
    (ho : o.op = .call { callee := .builtin .append, args := #[s, x], argTypes := #[t, t] })
    (B : Nat) (e : TypeId) (i : TypeInfo) (z : Value) (size bytes : Nat) (ht : P.underlying t = some (.slice e)) (hi : P.info? e = some i) (hz : i.zero = some z)
    (hsize : i.size = size) (hby : i.bytes = bytes) (hzs : z.cells.size = size) (hsz : 0 < size)
    (v : Value) (n : Nat) (xs us : List Value) (hown : Own w B e size v n xs) (hs : a.eval s = v) (hx : a.eval x = .slice (some ⟨w.heap.size, 0, none⟩) 1 1)
    (hus : us.length = size) (hu1 : us.all (·.oneCell') = true) (h47 : (n + 1) * bytes ≤ 140737488355328) (h63 : n + 1 ≤ 9223372036854775807) (hbase : B ≤ w.heap.size)
    (h : ∀ v' w', Own w' B e size v' (n + 1) (xs ++ us) → Below B w w' → (∀ k, k < w.heap.size → some k ≠ v.ownBlock → w'.heap[k]? = w.heap[k]?) → wpList P ops Q rest (a.put o.dst v') w') :
    wpList P ops Q (o :: rest) a (w.alloc (.cells us.toArray e)) := by
  refine wpList_append_Own (w.alloc (.cells us.toArray e)) hgd s x t ho B e i z size bytes ht hi hz hsize hby hzs hsz v n xs hs (hown.alloc _) ⟨w.heap.size, 0, none⟩ 1 1 us hx (by omega) ?_ ?_ ?_ h47 ?_ ?_
  · intro j u hj
    have hadd : (⟨w.heap.size, 0, none⟩ : Addr).add j = ⟨w.heap.size, j, none⟩ := by
      unfold Addr.add; split
      · rename_i h; subst h; rfl
      · simp
    rw [hadd, World.cell?_alloc_new]
    simpa using hj
  · intro u hu
    exact (List.all_eq_true.1 hu1) u hu
  · unfold maxLen; omega
  · simp; omega
  · intro v' w' h1 h2
    have hbB : Below B w (w.alloc (.cells us.toArray e)) := (Below.refl B w).alloc hbase _
    refine h v' w' h1 (hbB.grown h2 (by simp; omega) hown.block_ge) (fun k hk hne => ?_)
    rw [h2.block k (by simp; omega) hne]
    exact Below.heap_alloc w _ k hk
end Go.Proofs.Ytpniokkllkjhhaa
