/-
  EQUALITY OF STRUCTS OF ONE-CELL FIELDS, AS RUN EQUATIONS.
-/
import Derived.Test.YtdnipfkpfdglnaaRows
import Derived.Test.YtdnipfkpfdglnaaKit
import Derived.Laws.StructEq
namespace Go.Proofs.Ytdnipfkpfdglnaa.StW
open Go.RowKit
def sameSt (x1 y1 : Int) (x2 y2 : Int) (x3 y3 : Int) : Bool := (x1 == y1) && (x2 == y2) && (x3 == y3)
set_option maxRecDepth 100000 in
theorem equal_St (x1 y1 : Int) (x2 y2 : Int) (x3 y3 : Int) (w : World) : (Op.equalIn 10000 23 (.agg #[.int .i64 x1, .int .i64 x2, .int .i64 x3]) (.agg #[.int .i64 y1, .int .i64 y2, .int .i64 y3])).run Try.prog w = .ok (sameSt x1 y1 x2 y2 x3 y3) w := by
  have ht : Try.prog.underlying 23 = some (.struct (Try.prog.fieldsOf 23)) := by kernel_rfl
  have hp : Try.prog.stoodInHeld 23 = false := by kernel_rfl
  rw [run_equalIn_agg _ _ _ _ _ ht hp]
  unfold Program.fieldsOf sameSt
  rw [Try.underlying23]
  clear ht hp
  have e0 := fun d a b => run_equalIn_int (P := Try.prog) w d 3 .i64 .i64 a b Try.underlying3
  have e1 := fun d a b => run_equalIn_int (P := Try.prog) w d 2 .i64 .i64 a b Try.underlying2
  simp (decide := true) only [Op.eqFields, Sem.run_ite, Sem.run_bind, Sem.run_pure, part, Try.isAgg3, Try.isAgg2, Result.andThen_ok, if_false, if_true, show (#[.int .i64 x1, .int .i64 x2, .int .i64 x3] : Array Value)[0]? = some (.int .i64 x1) from rfl, show (#[.int .i64 x1, .int .i64 x2, .int .i64 x3] : Array Value)[1]? = some (.int .i64 x2) from rfl, show (#[.int .i64 x1, .int .i64 x2, .int .i64 x3] : Array Value)[2]? = some (.int .i64 x3) from rfl, show (#[.int .i64 y1, .int .i64 y2, .int .i64 y3] : Array Value)[0]? = some (.int .i64 y1) from rfl, show (#[.int .i64 y1, .int .i64 y2, .int .i64 y3] : Array Value)[1]? = some (.int .i64 y2) from rfl, show (#[.int .i64 y1, .int .i64 y2, .int .i64 y3] : Array Value)[2]? = some (.int .i64 y3) from rfl, e0 9998, e1 9998]
  cases (x1 == y1) <;> cases (x2 == y2) <;> cases (x3 == y3) <;> rfl
theorem neq_St (x1 y1 : Int) (x2 y2 : Int) (x3 y3 : Int) : ∀ w, (binOp .neq 23 (.agg #[.int .i64 x1, .int .i64 x2, .int .i64 x3]) (.agg #[.int .i64 y1, .int .i64 y2, .int .i64 y3])).run Try.prog w = .ok (.bool (!sameSt x1 y1 x2 y2 x3 y3)) w := fun w => by
  rw [run_neq_struct, equal_St]; rfl
theorem eql_St (x1 y1 : Int) (x2 y2 : Int) (x3 y3 : Int) : ∀ w, (binOp .eql 23 (.agg #[.int .i64 x1, .int .i64 x2, .int .i64 x3]) (.agg #[.int .i64 y1, .int .i64 y2, .int .i64 y3])).run Try.prog w = .ok (.bool (sameSt x1 y1 x2 y2 x3 y3)) w := fun w => by
  rw [run_eql_struct, equal_St]; rfl
theorem guard_St : Try.prog.eqGuardType Try.prog.depth 23 = false := by kernel_rfl
def sameRt (x1 y1 : Int) (x2 y2 : Int) (x3 y3 : Int) : Bool := (x1 == y1) && (x2 == y2) && (x3 == y3)
set_option maxRecDepth 100000 in
theorem equal_Rt (x1 y1 : Int) (x2 y2 : Int) (x3 y3 : Int) (w : World) : (Op.equalIn 10000 28 (.agg #[.int .i64 x1, .int .i64 x2, .int .i64 x3]) (.agg #[.int .i64 y1, .int .i64 y2, .int .i64 y3])).run Try.prog w = .ok (sameRt x1 y1 x2 y2 x3 y3) w := by
  have ht : Try.prog.underlying 28 = some (.struct (Try.prog.fieldsOf 28)) := by kernel_rfl
  have hp : Try.prog.stoodInHeld 28 = false := by kernel_rfl
  rw [run_equalIn_agg _ _ _ _ _ ht hp]
  unfold Program.fieldsOf sameRt
  rw [Try.underlying28]
  clear ht hp
  have e0 := fun d a b => run_equalIn_int (P := Try.prog) w d 3 .i64 .i64 a b Try.underlying3
  have e1 := fun d a b => run_equalIn_int (P := Try.prog) w d 2 .i64 .i64 a b Try.underlying2
  simp (decide := true) only [Op.eqFields, Sem.run_ite, Sem.run_bind, Sem.run_pure, part, Try.isAgg3, Try.isAgg2, Result.andThen_ok, if_false, if_true, show (#[.int .i64 x1, .int .i64 x2, .int .i64 x3] : Array Value)[0]? = some (.int .i64 x1) from rfl, show (#[.int .i64 x1, .int .i64 x2, .int .i64 x3] : Array Value)[1]? = some (.int .i64 x2) from rfl, show (#[.int .i64 x1, .int .i64 x2, .int .i64 x3] : Array Value)[2]? = some (.int .i64 x3) from rfl, show (#[.int .i64 y1, .int .i64 y2, .int .i64 y3] : Array Value)[0]? = some (.int .i64 y1) from rfl, show (#[.int .i64 y1, .int .i64 y2, .int .i64 y3] : Array Value)[1]? = some (.int .i64 y2) from rfl, show (#[.int .i64 y1, .int .i64 y2, .int .i64 y3] : Array Value)[2]? = some (.int .i64 y3) from rfl, e0 9998, e1 9998]
  cases (x1 == y1) <;> cases (x2 == y2) <;> cases (x3 == y3) <;> rfl
theorem neq_Rt (x1 y1 : Int) (x2 y2 : Int) (x3 y3 : Int) : ∀ w, (binOp .neq 28 (.agg #[.int .i64 x1, .int .i64 x2, .int .i64 x3]) (.agg #[.int .i64 y1, .int .i64 y2, .int .i64 y3])).run Try.prog w = .ok (.bool (!sameRt x1 y1 x2 y2 x3 y3)) w := fun w => by
  rw [run_neq_struct, equal_Rt]; rfl
theorem eql_Rt (x1 y1 : Int) (x2 y2 : Int) (x3 y3 : Int) : ∀ w, (binOp .eql 28 (.agg #[.int .i64 x1, .int .i64 x2, .int .i64 x3]) (.agg #[.int .i64 y1, .int .i64 y2, .int .i64 y3])).run Try.prog w = .ok (.bool (sameRt x1 y1 x2 y2 x3 y3)) w := fun w => by
  rw [run_eql_struct, equal_Rt]; rfl
theorem guard_Rt : Try.prog.eqGuardType Try.prog.depth 28 = false := by kernel_rfl
end Go.Proofs.Ytdnipfkpfdglnaa.StW
