/-
  EQUALITY OF STRUCTS OF ONE-CELL FIELDS, AS RUN EQUATIONS.
-/
import Derived.Test.YtdacefmcnjoboaaRows
import Derived.Test.YtdacefmcnjoboaaKit
import Derived.Laws.StructEq
namespace Go.Proofs.Ytdacefmcnjoboaa.LabW
open Go.RowKit
def sameS (x1 y1 : Int) (x2 y2 : Int) : Bool := (x1 == y1) && (x2 == y2)
set_option maxRecDepth 100000 in
theorem equal_S (x1 y1 : Int) (x2 y2 : Int) (w : World) : (Op.equalIn 10000 52 (.agg #[.int .i64 x1, .int .u64 x2]) (.agg #[.int .i64 y1, .int .u64 y2])).run Try.prog w = .ok (sameS x1 y1 x2 y2) w := by
  have ht : Try.prog.underlying 52 = some (.struct (Try.prog.fieldsOf 52)) := by kernel_rfl
  have hp : Try.prog.stoodInHeld 52 = false := by kernel_rfl
  rw [run_equalIn_agg _ _ _ _ _ ht hp]
  unfold Program.fieldsOf sameS
  rw [Try.underlying52]
  clear ht hp
  have e0 := fun d a b => run_equalIn_int (P := Try.prog) w d 2 .i64 .i64 a b Try.underlying2
  have e1 := fun d a b => run_equalIn_int (P := Try.prog) w d 50 .u64 .u64 a b Try.underlying50
  simp (decide := true) only [Op.eqFields, Sem.run_ite, Sem.run_bind, Sem.run_pure, part, Try.isAgg2, Try.isAgg50, Result.andThen_ok, if_false, if_true, show (#[.int .i64 x1, .int .u64 x2] : Array Value)[0]? = some (.int .i64 x1) from rfl, show (#[.int .i64 x1, .int .u64 x2] : Array Value)[1]? = some (.int .u64 x2) from rfl, show (#[.int .i64 y1, .int .u64 y2] : Array Value)[0]? = some (.int .i64 y1) from rfl, show (#[.int .i64 y1, .int .u64 y2] : Array Value)[1]? = some (.int .u64 y2) from rfl, e0 9998, e1 9998]
  cases (x1 == y1) <;> cases (x2 == y2) <;> rfl
theorem neq_S (x1 y1 : Int) (x2 y2 : Int) : ∀ w, (binOp .neq 52 (.agg #[.int .i64 x1, .int .u64 x2]) (.agg #[.int .i64 y1, .int .u64 y2])).run Try.prog w = .ok (.bool (!sameS x1 y1 x2 y2)) w := fun w => by
  rw [run_neq_struct, equal_S]; rfl
theorem eql_S (x1 y1 : Int) (x2 y2 : Int) : ∀ w, (binOp .eql 52 (.agg #[.int .i64 x1, .int .u64 x2]) (.agg #[.int .i64 y1, .int .u64 y2])).run Try.prog w = .ok (.bool (sameS x1 y1 x2 y2)) w := fun w => by
  rw [run_eql_struct, equal_S]; rfl
theorem guard_S : Try.prog.eqGuardType Try.prog.depth 52 = false := by kernel_rfl
def sameL (x1 y1 : ByteArray) (x2 y2 : ByteArray) : Bool := (x1.toList == y1.toList) && (x2.toList == y2.toList)
set_option maxRecDepth 100000 in
theorem equal_L (x1 y1 : ByteArray) (x2 y2 : ByteArray) (w : World) : (Op.equalIn 10000 49 (.agg #[.string x1, .string x2]) (.agg #[.string y1, .string y2])).run Try.prog w = .ok (sameL x1 y1 x2 y2) w := by
  have ht : Try.prog.underlying 49 = some (.struct (Try.prog.fieldsOf 49)) := by kernel_rfl
  have hp : Try.prog.stoodInHeld 49 = false := by kernel_rfl
  rw [run_equalIn_agg _ _ _ _ _ ht hp]
  unfold Program.fieldsOf sameL
  rw [Try.underlying49]
  clear ht hp
  have e0 := fun d a b => run_equalIn_string (P := Try.prog) w d 9 a b Try.underlying9
  simp (decide := true) only [Op.eqFields, Sem.run_ite, Sem.run_bind, Sem.run_pure, part, Try.isAgg9, Result.andThen_ok, if_false, if_true, show (#[.string x1, .string x2] : Array Value)[0]? = some (.string x1) from rfl, show (#[.string x1, .string x2] : Array Value)[1]? = some (.string x2) from rfl, show (#[.string y1, .string y2] : Array Value)[0]? = some (.string y1) from rfl, show (#[.string y1, .string y2] : Array Value)[1]? = some (.string y2) from rfl, e0 9998]
  cases (x1.toList == y1.toList) <;> cases (x2.toList == y2.toList) <;> rfl
theorem neq_L (x1 y1 : ByteArray) (x2 y2 : ByteArray) : ∀ w, (binOp .neq 49 (.agg #[.string x1, .string x2]) (.agg #[.string y1, .string y2])).run Try.prog w = .ok (.bool (!sameL x1 y1 x2 y2)) w := fun w => by
  rw [run_neq_struct, equal_L]; rfl
theorem eql_L (x1 y1 : ByteArray) (x2 y2 : ByteArray) : ∀ w, (binOp .eql 49 (.agg #[.string x1, .string x2]) (.agg #[.string y1, .string y2])).run Try.prog w = .ok (.bool (sameL x1 y1 x2 y2)) w := fun w => by
  rw [run_eql_struct, equal_L]; rfl
theorem guard_L : Try.prog.eqGuardType Try.prog.depth 49 = false := by kernel_rfl
def sameM (x1 y1 : Int) (x2 y2 : ByteArray) (x3 y3 : ByteArray) : Bool := (x1 == y1) && (x2.toList == y2.toList) && (x3.toList == y3.toList)
set_option maxRecDepth 100000 in
theorem equal_M (x1 y1 : Int) (x2 y2 : ByteArray) (x3 y3 : ByteArray) (w : World) : (Op.equalIn 10000 32 (.agg #[.int .i64 x1, .string x2, .string x3]) (.agg #[.int .i64 y1, .string y2, .string y3])).run Try.prog w = .ok (sameM x1 y1 x2 y2 x3 y3) w := by
  have ht : Try.prog.underlying 32 = some (.struct (Try.prog.fieldsOf 32)) := by kernel_rfl
  have hp : Try.prog.stoodInHeld 32 = false := by kernel_rfl
  rw [run_equalIn_agg _ _ _ _ _ ht hp]
  unfold Program.fieldsOf sameM
  rw [Try.underlying32]
  clear ht hp
  have e0 := fun d a b => run_equalIn_int (P := Try.prog) w d 3 .i64 .i64 a b Try.underlying3
  have e1 := fun d a b => run_equalIn_string (P := Try.prog) w d 9 a b Try.underlying9
  simp (decide := true) only [Op.eqFields, Sem.run_ite, Sem.run_bind, Sem.run_pure, part, Try.isAgg3, Try.isAgg9, Result.andThen_ok, if_false, if_true, show (#[.int .i64 x1, .string x2, .string x3] : Array Value)[0]? = some (.int .i64 x1) from rfl, show (#[.int .i64 x1, .string x2, .string x3] : Array Value)[1]? = some (.string x2) from rfl, show (#[.int .i64 x1, .string x2, .string x3] : Array Value)[2]? = some (.string x3) from rfl, show (#[.int .i64 y1, .string y2, .string y3] : Array Value)[0]? = some (.int .i64 y1) from rfl, show (#[.int .i64 y1, .string y2, .string y3] : Array Value)[1]? = some (.string y2) from rfl, show (#[.int .i64 y1, .string y2, .string y3] : Array Value)[2]? = some (.string y3) from rfl, e0 9998, e1 9998]
  cases (x1 == y1) <;> cases (x2.toList == y2.toList) <;> cases (x3.toList == y3.toList) <;> rfl
theorem neq_M (x1 y1 : Int) (x2 y2 : ByteArray) (x3 y3 : ByteArray) : ∀ w, (binOp .neq 32 (.agg #[.int .i64 x1, .string x2, .string x3]) (.agg #[.int .i64 y1, .string y2, .string y3])).run Try.prog w = .ok (.bool (!sameM x1 y1 x2 y2 x3 y3)) w := fun w => by
  rw [run_neq_struct, equal_M]; rfl
theorem eql_M (x1 y1 : Int) (x2 y2 : ByteArray) (x3 y3 : ByteArray) : ∀ w, (binOp .eql 32 (.agg #[.int .i64 x1, .string x2, .string x3]) (.agg #[.int .i64 y1, .string y2, .string y3])).run Try.prog w = .ok (.bool (sameM x1 y1 x2 y2 x3 y3)) w := fun w => by
  rw [run_eql_struct, equal_M]; rfl
theorem guard_M : Try.prog.eqGuardType Try.prog.depth 32 = false := by kernel_rfl
end Go.Proofs.Ytdacefmcnjoboaa.LabW
