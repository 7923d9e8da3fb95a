/-
  LabelTells, LabelPairs: the walks at whatever arguments, and the openings side by side.
-/
import Derived.Test.YtgnifdkoaajboaaLbLaw5
import Derived.Test.YtgnifdkoaajboaaLbOpen
import Derived.ChangeAt
namespace Go.Proofs.Ytgnifdkoaajboaa.FrW
open Go.RowKit Go.Shelf LabM LabW
theorem labelTells_fin (A1 : Option Addr) (n1 c1 : Nat) (l : List Lab) (g : Int) (nm : ByteArray) (w : World) (hl : Comes w 2 encL okL A1 n1 c1 l) (_ : (Lit.int .i64 g).wf = true) (_ : nm.size ≤ maxLen) :
    Calls Try.prog 3 #[.slice A1 n1 c1, .int .i64 g, .string nm] w fun e w' => e = .returned (.bool true) ∧ Below w.heap.size w w' := labelTells_all A1 n1 c1 l g nm w hl
end Go.Proofs.Ytgnifdkoaajboaa.FrW
