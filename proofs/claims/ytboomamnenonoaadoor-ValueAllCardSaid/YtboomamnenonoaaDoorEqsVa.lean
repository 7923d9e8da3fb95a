/-
  EQUALITY OF STRUCTS OF ONE-CELL FIELDS, AS RUN EQUATIONS.
-/
import Derived.Test.YtboomamnenonoaaDoorRows
import Derived.Test.YtboomamnenonoaaDoorKit
import Derived.Laws.StructEq
namespace Go.Proofs.YtboomamnenonoaaDoor.VaW
open Go.RowKit
def sameVa (x1 y1 : Int) (x2 y2 : Int) (x3 y3 : Int) (x4 y4 : Int) : Bool := (x1 == y1) && (x2 == y2) && (x3 == y3) && (x4 == y4)
set_option maxRecDepth 100000 in
theorem equal_Va (x1 y1 : Int) (x2 y2 : Int) (x3 y3 : Int) (x4 y4 : Int) (w : World) : (Op.equalIn 10000 31 (.agg #[.int .i64 x1, .int .u64 x2, .int .i64 x3, .int .i64 x4]) (.agg #[.int .i64 y1, .int .u64 y2, .int .i64 y3, .int .i64 y4])).run Tryd.prog w = .ok (sameVa x1 y1 x2 y2 x3 y3 x4 y4) w := by
  have ht : Tryd.prog.underlying 31 = some (.struct (Tryd.prog.fieldsOf 31)) := by kernel_rfl
  have hp : Tryd.prog.stoodInHeld 31 = false := by kernel_rfl
  rw [run_equalIn_agg _ _ _ _ _ ht hp]
  unfold Program.fieldsOf sameVa
  rw [Tryd.underlying31]
  clear ht hp
  have e0 := fun d a b => run_equalIn_int (P := Tryd.prog) w d 3 .i64 .i64 a b Tryd.underlying3
  have e1 := fun d a b => run_equalIn_int (P := Tryd.prog) w d 29 .u64 .u64 a b Tryd.underlying29
  simp (decide := true) only [Op.eqFields, Sem.run_ite, Sem.run_bind, Sem.run_pure, part, Tryd.isAgg3, Tryd.isAgg29, Result.andThen_ok, if_false, if_true, show (#[.int .i64 x1, .int .u64 x2, .int .i64 x3, .int .i64 x4] : Array Value)[0]? = some (.int .i64 x1) from rfl, show (#[.int .i64 x1, .int .u64 x2, .int .i64 x3, .int .i64 x4] : Array Value)[1]? = some (.int .u64 x2) from rfl, show (#[.int .i64 x1, .int .u64 x2, .int .i64 x3, .int .i64 x4] : Array Value)[2]? = some (.int .i64 x3) from rfl, show (#[.int .i64 x1, .int .u64 x2, .int .i64 x3, .int .i64 x4] : Array Value)[3]? = some (.int .i64 x4) from rfl, show (#[.int .i64 y1, .int .u64 y2, .int .i64 y3, .int .i64 y4] : Array Value)[0]? = some (.int .i64 y1) from rfl, show (#[.int .i64 y1, .int .u64 y2, .int .i64 y3, .int .i64 y4] : Array Value)[1]? = some (.int .u64 y2) from rfl, show (#[.int .i64 y1, .int .u64 y2, .int .i64 y3, .int .i64 y4] : Array Value)[2]? = some (.int .i64 y3) from rfl, show (#[.int .i64 y1, .int .u64 y2, .int .i64 y3, .int .i64 y4] : Array Value)[3]? = some (.int .i64 y4) from rfl, e0 9998, e1 9998]
  cases (x1 == y1) <;> cases (x2 == y2) <;> cases (x3 == y3) <;> cases (x4 == y4) <;> rfl
theorem neq_Va (x1 y1 : Int) (x2 y2 : Int) (x3 y3 : Int) (x4 y4 : Int) : ∀ w, (binOp .neq 31 (.agg #[.int .i64 x1, .int .u64 x2, .int .i64 x3, .int .i64 x4]) (.agg #[.int .i64 y1, .int .u64 y2, .int .i64 y3, .int .i64 y4])).run Tryd.prog w = .ok (.bool (!sameVa x1 y1 x2 y2 x3 y3 x4 y4)) w := fun w => by
  rw [run_neq_struct, equal_Va]; rfl
theorem eql_Va (x1 y1 : Int) (x2 y2 : Int) (x3 y3 : Int) (x4 y4 : Int) : ∀ w, (binOp .eql 31 (.agg #[.int .i64 x1, .int .u64 x2, .int .i64 x3, .int .i64 x4]) (.agg #[.int .i64 y1, .int .u64 y2, .int .i64 y3, .int .i64 y4])).run Tryd.prog w = .ok (.bool (sameVa x1 y1 x2 y2 x3 y3 x4 y4)) w := fun w => by
  rw [run_eql_struct, equal_Va]; rfl
theorem guard_Va : Tryd.prog.eqGuardType Tryd.prog.depth 31 = false := by kernel_rfl
end Go.Proofs.YtboomamnenonoaaDoor.VaW
