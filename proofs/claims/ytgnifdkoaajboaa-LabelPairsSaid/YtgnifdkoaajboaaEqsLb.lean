/-
  EQUALITY OF STRUCTS OF ONE-CELL FIELDS, AS RUN EQUATIONS.
-/
import Derived.Test.YtgnifdkoaajboaaRows
import Derived.Test.YtgnifdkoaajboaaKit
import Derived.Laws.StructEq
namespace Go.Proofs.Ytgnifdkoaajboaa.FrW
open Go.RowKit
def sameL (x1 y1 : ByteArray) (x2 y2 : ByteArray) : Bool := (x1.toList == y1.toList) && (x2.toList == y2.toList)
set_option maxRecDepth 100000 in
theorem equal_L (x1 y1 : ByteArray) (x2 y2 : ByteArray) (w : World) : (Op.equalIn 10000 38 (.agg #[.string x1, .string x2]) (.agg #[.string y1, .string y2])).run Try.prog w = .ok (sameL x1 y1 x2 y2) w := by
  have ht : Try.prog.underlying 38 = some (.struct (Try.prog.fieldsOf 38)) := by kernel_rfl
  have hp : Try.prog.stoodInHeld 38 = false := by kernel_rfl
  rw [run_equalIn_agg _ _ _ _ _ ht hp]
  unfold Program.fieldsOf sameL
  rw [Try.underlying38]
  clear ht hp
  have e0 := fun d a b => run_equalIn_string (P := Try.prog) w d 9 a b Try.underlying9
  simp (decide := true) only [Op.eqFields, Sem.run_ite, Sem.run_bind, Sem.run_pure, part, Try.isAgg9, Result.andThen_ok, if_false, if_true, show (#[.string x1, .string x2] : Array Value)[0]? = some (.string x1) from rfl, show (#[.string x1, .string x2] : Array Value)[1]? = some (.string x2) from rfl, show (#[.string y1, .string y2] : Array Value)[0]? = some (.string y1) from rfl, show (#[.string y1, .string y2] : Array Value)[1]? = some (.string y2) from rfl, e0 9998]
  cases (x1.toList == y1.toList) <;> cases (x2.toList == y2.toList) <;> rfl
theorem neq_L (x1 y1 : ByteArray) (x2 y2 : ByteArray) : ∀ w, (binOp .neq 38 (.agg #[.string x1, .string x2]) (.agg #[.string y1, .string y2])).run Try.prog w = .ok (.bool (!sameL x1 y1 x2 y2)) w := fun w => by
  rw [run_neq_struct, equal_L]; rfl
theorem eql_L (x1 y1 : ByteArray) (x2 y2 : ByteArray) : ∀ w, (binOp .eql 38 (.agg #[.string x1, .string x2]) (.agg #[.string y1, .string y2])).run Try.prog w = .ok (.bool (sameL x1 y1 x2 y2)) w := fun w => by
  rw [run_eql_struct, equal_L]; rfl
theorem guard_L : Try.prog.eqGuardType Try.prog.depth 38 = false := by kernel_rfl
end Go.Proofs.Ytgnifdkoaajboaa.FrW
