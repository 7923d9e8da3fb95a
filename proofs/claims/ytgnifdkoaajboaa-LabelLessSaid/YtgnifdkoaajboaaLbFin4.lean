/-
  LabelReads, LabelLess: the walks at whatever arguments, and the openings side by side.
-/
import Derived.Test.YtgnifdkoaajboaaLbLaw6
import Derived.Test.YtgnifdkoaajboaaLbLess
import Derived.Test.YtgnifdkoaajboaaLbOpen
import Derived.ChangeAt
namespace Go.Proofs.Ytgnifdkoaajboaa.FrW
open Go.RowKit Go.Shelf LabM LabW
theorem wf_u8 {a : Int} (h : (Lit.int .u8 a).wf = true) : 0 ≤ a ∧ a ≤ 255 := by
  have h3 : IntKind.u8.min ≤ a ∧ a ≤ IntKind.u8.max := by simpa [Lit.wf] using h
  have e1 : IntKind.u8.min = 0 := by decide
  have e2 : IntKind.u8.max = 255 := by decide
  omega
theorem labelLess_fin (A1 : Option Addr) (n1 c1 : Nat) (l : List Lab) (a : Int) (w : World) (hl : Comes w 2 encL okL A1 n1 c1 l) (ha : (Lit.int .u8 a).wf = true) :
    Calls Try.prog 8 #[.slice A1 n1 c1, .int .u8 a] w fun e w' => e = .returned (.bool true) ∧ Below w.heap.size w w' := labelLess_all A1 n1 c1 l a w hl (wf_u8 ha)
end Go.Proofs.Ytgnifdkoaajboaa.FrW
