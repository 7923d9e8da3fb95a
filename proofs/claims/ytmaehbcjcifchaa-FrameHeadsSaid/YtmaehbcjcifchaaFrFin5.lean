/-
  FrameHeads: THE WALK AT WHATEVER ARGUMENTS.
-/
import Derived.Test.YtmaehbcjcifchaaFrLawH
import Derived.Test.YtmaehbcjcifchaaFrFin
namespace Go.Proofs.Ytmaehbcjcifchaa.FrW
set_option linter.unusedVariables false
open Go.RowKit Go.Shelf CrcM CrcW FrM Go.ChangeShapes Go.WideShapes
theorem frameHeads_fin (m : ByteArray) (g f : Int) (s : ByteArray) (w : World) (hm : m.size ≤ maxLen) (_ : (Lit.int .i64 g).wf = true) (_ : (Lit.int .i64 f).wf = true) (hs : s.size ≤ maxLen) :
    Calls Try.prog 3 #[.string m, .int .i64 g, .int .i64 f, .string s] w fun e w' => e = .returned (.bool true) ∧ Below w.heap.size w w' := by
  obtain ⟨m, rfl, hm'⟩ := in_bs m hm
  obtain ⟨s, rfl, hs'⟩ := in_bs s hs
  exact frameHeads_all m g f s w hm' hs'
end Go.Proofs.Ytmaehbcjcifchaa.FrW
