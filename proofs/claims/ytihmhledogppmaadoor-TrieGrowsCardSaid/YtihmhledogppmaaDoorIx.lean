/- An array value of one-cell pointers is read at an index. -/
import Derived.Test.YtihmhledogppmaaDoorRow
namespace Go.Proofs.YtihmhledogppmaaDoor
open Go Go.RowKit
set_option linter.unusedVariables false

theorem run_index_agg {P : Program} {ty e p : TypeId} {n : Nat} (cs : List Value) (k : Nat) (v : Value) (hu : P.underlying ty = some (.array n e)) (he : P.underlying e = some (.pointer p)) (hi : (P.info? e).map (·.size) = some 1) (hk : k < n) (hv : cs[k]? = some v) (w : World) :
    (Instr.index ty (.agg cs.toArray) (.int .i64 (k : Int))).run P w = .ok v w := by
  have hin : (0 : Int) ≤ (k : Int) ∧ (k : Int) < (n : Int) := by omega
  cases hq : P.info? e with
  | none => simp [hq] at hi
  | some i =>
    have hs : i.size = 1 := by simpa [hq] using hi
    have hagg : (isAgg e).run P w = .ok false w := by
      unfold isAgg
      rw [Sem.run_bind, run_underlying he w]
      rfl
    simp [Instr.index, Sem.run_bind, run_underlying hu, asIntOf, hin, sizeOf, typeInfo, hq, hs, part, hagg, hv]
    intro h
    exact absurd h (by omega)
theorem wpList_index_agg {P : Program} {ops : Array Oper} {rest : List Oper} {o : Oper} {a : Act} {w : World} {Q : Exit → Act → World → Prop} (hgd : Region.wanted o (yielded ops a.tmps) = true) (ty : TypeId) (x i : Operand) (ho : o.op = .index ty x i)
    {e p : TypeId} {n : Nat} (cs : List Value) (k : Nat) (v : Value) (hx : a.eval x = .agg cs.toArray) (hk : a.eval i = .int .i64 (k : Int)) (hu : P.underlying ty = some (.array n e)) (he : P.underlying e = some (.pointer p)) (hi : (P.info? e).map (·.size) = some 1) (hn : k < n) (hv : cs[k]? = some v)
    (h : wpList P ops Q rest (a.put o.dst v) w) : wpList P ops Q (o :: rest) a w := by
  refine BigFrame.wpList_want hgd fun K hK => ?_
  unfold Oper.wp execOp
  simp only [ho, hx, hk, Sem.run_bind, Sem.run_pure, Result.andThen_ok, run_index_agg cs k v hu he hi hn hv w]
  exact hK _ _ h
end Go.Proofs.YtihmhledogppmaaDoor
