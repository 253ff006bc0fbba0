/- Sums, differences and products of ints whose value is of no matter. -/
import Derived.Test.YtmhbncpiloffgaaLib
namespace Go.Proofs.Ytmhbncpiloffgaa
theorem wpList_add_any {P : Program} {ops : Array Oper} {rest : List Oper} {o : Oper} {a : Act} {w : World} {Q : Exit → Act → World → Prop} (hgd : o.guard = none) (t : TypeId) (x y : Operand) (ho : o.op = .binOp .add t x y t)
    (m n : Int) (hx : a.eval x = .int .i64 m) (hy : a.eval y = .int .i64 n) (h : ∀ z : Int, wpList P ops Q rest (a.put o.dst (.int .i64 z)) w) : wpList P ops Q (o :: rest) a w := by
  refine wpList_plain hgd fun _ hK => ?_
  unfold Oper.wp execOp
  simp only [ho]
  rw [hx, hy]
  simp [binOp, go_sem]
  exact hK _ _ (h _)
theorem wpList_sub_any {P : Program} {ops : Array Oper} {rest : List Oper} {o : Oper} {a : Act} {w : World} {Q : Exit → Act → World → Prop} (hgd : o.guard = none) (t : TypeId) (x y : Operand) (ho : o.op = .binOp .sub t x y t)
    (m n : Int) (hx : a.eval x = .int .i64 m) (hy : a.eval y = .int .i64 n) (h : ∀ z : Int, wpList P ops Q rest (a.put o.dst (.int .i64 z)) w) : wpList P ops Q (o :: rest) a w := by
  refine wpList_plain hgd fun _ hK => ?_
  unfold Oper.wp execOp
  simp only [ho]
  rw [hx, hy]
  simp [binOp, go_sem]
  exact hK _ _ (h _)
theorem wpList_mul_any {P : Program} {ops : Array Oper} {rest : List Oper} {o : Oper} {a : Act} {w : World} {Q : Exit → Act → World → Prop} (hgd : o.guard = none) (t : TypeId) (x y : Operand) (ho : o.op = .binOp .mul t x y t)
    (m n : Int) (hx : a.eval x = .int .i64 m) (hy : a.eval y = .int .i64 n) (h : ∀ z : Int, z = IntKind.i64.wrap (m * n) → wpList P ops Q rest (a.put o.dst (.int .i64 z)) w) : wpList P ops Q (o :: rest) a w := by
  refine wpList_plain hgd fun _ hK => ?_
  unfold Oper.wp execOp
  simp only [ho]
  rw [hx, hy]
  simp [binOp, go_sem]
  exact hK _ _ (h _ rfl)
theorem wpList_move_any {P : Program} {ops : Array Oper} {rest : List Oper} {o : Oper} {a : Act} {w : World} {Q : Exit → Act → World → Prop} (hgd : o.guard = none) (x : Operand) (ho : o.op = .move x) (v : Value) (hx : a.eval x = v) (h : wpList P ops Q rest (a.put o.dst v) w) : wpList P ops Q (o :: rest) a w := by
  refine wpList_plain hgd fun _ hK => ?_
  unfold Oper.wp
  simp only [execOp, ho, hx]
  simp [go_sem]
  exact hK _ _ h
theorem wpList_len_any {P : Program} {ops : Array Oper} {rest : List Oper} {o : Oper} {a : Act} {w : World} {Q : Exit → Act → World → Prop} (hgd : o.guard = none) (t e : TypeId) (hu : P.underlying t = some (.slice e)) (x : Operand) (ho : o.op = .call { callee := .builtin .len, args := #[x], argTypes := #[t] })
    (p : Option Addr) (n c : Nat) (hx : a.eval x = .slice p n c) (m : Int) (hm : (n : Int) = m) (h : wpList P ops Q rest (a.put o.dst (.int .i64 m)) w) : wpList P ops Q (o :: rest) a w := by
  refine wpList_plain hgd fun _ hK => ?_
  unfold Oper.wp
  subst hm
  have ea : (#[x].map a.eval) = #[.slice p n c] := by simp only [List.map_toArray, List.map_cons, List.map_nil]; rw [hx]
  simp only [execOp, ho, resolve, invoke, ea]
  simp [builtin, Builtin.len_, run_underlying hu, goInt, go_sem]
  exact hK _ _ h
end Go.Proofs.Ytmhbncpiloffgaa
