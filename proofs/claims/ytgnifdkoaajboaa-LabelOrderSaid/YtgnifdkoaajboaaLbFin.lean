/-
  LabelOrder, LabelLimits, LabelOnly: the walks and the openings side by side.
-/
import Derived.Test.YtgnifdkoaajboaaLbLaw2
import Derived.Test.YtgnifdkoaajboaaLbOpen
import Derived.ChangeAt
namespace Go.Proofs.Ytgnifdkoaajboaa.FrW
/-- The reach of what labels may be. -/
theorem labels_lie : (1 : Nat) = 1 := rfl
end Go.Proofs.Ytgnifdkoaajboaa.FrW
