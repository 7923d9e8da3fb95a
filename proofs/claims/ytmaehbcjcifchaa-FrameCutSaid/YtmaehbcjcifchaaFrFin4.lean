/-
  FrameCut: THE WALK AT WHATEVER ARGUMENTS.
-/
import Derived.Test.YtmaehbcjcifchaaFrLawC
import Derived.Test.YtmaehbcjcifchaaFrFin3
namespace Go.Proofs.Ytmaehbcjcifchaa.FrW
open Go.RowKit Go.Shelf Go.ChangeShapes Go.WideShapes FrM
theorem frameCut_fin (A : Option Addr) (n c : Nat) (l : List (List UInt8)) (at_ : Int) (w : World) (hl : Comes w 1 encT okT A n c l) (hat : (Lit.int .i64 at_).wf = true) :
    Calls Try.prog 5 #[.slice A n c, .int .i64 at_] w fun e w' => e = .returned (.bool true) ∧ Below w.heap.size w w' :=
  frameCut_all A n c l at_ w hl (wf_i64 hat)
end Go.Proofs.Ytmaehbcjcifchaa.FrW
