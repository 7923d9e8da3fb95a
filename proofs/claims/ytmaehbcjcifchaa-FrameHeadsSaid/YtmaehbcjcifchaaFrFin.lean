/-
  FrameSizes, FrameBack: THE WALKS AT WHATEVER ARGUMENTS.
-/
import Derived.Test.YtmaehbcjcifchaaFrLawA
import Derived.ChangeAt
namespace Go.Proofs.Ytmaehbcjcifchaa.FrW
set_option linter.unusedVariables false
open Go.RowKit Go.Shelf CrcM CrcW FrM Go.ChangeShapes Go.WideShapes
theorem wf_i64 {a : Int} (h : (Lit.int .i64 a).wf = true) : -9223372036854775808 ≤ a ∧ a ≤ 9223372036854775807 := by
  have h3 : IntKind.i64.min ≤ a ∧ a ≤ IntKind.i64.max := by simpa [Lit.wf] using h
  have e1 : IntKind.i64.min = -9223372036854775808 := by decide
  have e2 : IntKind.i64.max = 9223372036854775807 := by decide
  omega
theorem in_bs (a : ByteArray) (h : a.size ≤ maxLen) : ∃ l : List UInt8, a = bs l ∧ l.length ≤ 9223372036854775807 := by
  refine ⟨a.data.toList, (bs_of a).symm, ?_⟩
  have e : a.data.toList.length = a.size := by simp
  have h2 : maxLen ≤ 9223372036854775807 := by decide
  omega
theorem frameSizes_fin (b m : ByteArray) (g f : Int) (w : World) (hb : b.size ≤ maxLen) (hm : m.size ≤ maxLen) (hg : (Lit.int .i64 g).wf = true) (hf : (Lit.int .i64 f).wf = true) :
    Calls Try.prog 7 #[.string b, .string m, .int .i64 g, .int .i64 f] w fun e w' => e = .returned (.bool true) ∧ Below w.heap.size w w' := by
  obtain ⟨b, rfl, hb'⟩ := in_bs b hb
  obtain ⟨m, rfl, hm'⟩ := in_bs m hm
  exact frameSizes_all b m g f w hb' hm'
theorem frameBack_fin (b r s : ByteArray) (most : Int) (w : World) (hb : b.size ≤ maxLen) (hr : r.size ≤ maxLen) (hs : s.size ≤ maxLen) (hm : (Lit.int .i64 most).wf = true) :
    Calls Try.prog 4 #[.string b, .string r, .string s, .int .i64 most] w fun e w' => e = .returned (.bool true) ∧ Below w.heap.size w w' := by
  obtain ⟨b, rfl, hb'⟩ := in_bs b hb
  obtain ⟨r, rfl, hr'⟩ := in_bs r hr
  obtain ⟨s, rfl, hs'⟩ := in_bs s hs
  exact frameBack_all b r s most w hb' hr' hs' (wf_i64 hm).2
end Go.Proofs.Ytmaehbcjcifchaa.FrW
