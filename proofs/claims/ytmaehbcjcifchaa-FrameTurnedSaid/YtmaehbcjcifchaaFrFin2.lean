/-
  FrameTurned: THE WALK AT WHATEVER ARGUMENTS.
-/
import Derived.Test.YtmaehbcjcifchaaFrLawU
import Derived.Test.YtmaehbcjcifchaaFrFin
import Derived.SizedLaws
namespace Go.Proofs.Ytmaehbcjcifchaa.FrW
set_option linter.unusedVariables false
open Go.RowKit Go.Shelf CrcM CrcW FrM Go.ChangeShapes Go.WideShapes
theorem in_reach (a : ByteArray) (h : a.data.toList.length ≤ reachBytes) : ∃ l : List UInt8, a = bs l ∧ l.length ≤ 140737488355328 := by
  refine ⟨a.data.toList, (bs_of a).symm, ?_⟩
  have := reachBytes_lt
  omega
theorem wf_u8 {a : Int} (h : (Lit.int .u8 a).wf = true) : ∃ x : UInt8, a = (x.toNat : Int) := by
  have h3 : IntKind.u8.min ≤ a ∧ a ≤ IntKind.u8.max := by simpa [Lit.wf] using h
  have e1 : IntKind.u8.min = 0 := by decide
  have e2 : IntKind.u8.max = 255 := by decide
  refine ⟨UInt8.ofNat a.toNat, ?_⟩
  rw [byte_nat _ (by omega)]; omega
theorem frameTurned_fin (b : ByteArray) (at_ by_ : Int) (r : ByteArray) (w : World) (hb : b.data.toList.length ≤ reachBytes) (hat : (Lit.int .i64 at_).wf = true) (hy : (Lit.int .u8 by_).wf = true) (hr : r.data.toList.length ≤ reachBytes) :
    Calls Try.prog 6 #[.string b, .int .i64 at_, .int .u8 by_, .string r] w fun e w' => e = .returned (.bool true) ∧ Below w.heap.size w w' := by
  obtain ⟨b, rfl, hb'⟩ := in_reach b hb
  obtain ⟨r, rfl, hr'⟩ := in_reach r hr
  obtain ⟨x, rfl⟩ := wf_u8 hy
  exact frameTurned_all b at_ x r w hb' (by omega) (wf_i64 hat)
end Go.Proofs.Ytmaehbcjcifchaa.FrW
