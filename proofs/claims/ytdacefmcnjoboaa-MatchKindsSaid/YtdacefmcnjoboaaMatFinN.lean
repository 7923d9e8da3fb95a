import Derived.Test.YtdacefmcnjoboaaMatLawN
import Derived.Test.YtdacefmcnjoboaaMatLawK
import Derived.Test.YtdacefmcnjoboaaMatOpen
namespace Go.Proofs.Ytdacefmcnjoboaa.LabW
open Go.RowKit Go.Shelf LabM
theorem matchNot_fin (m : Mat) (A : Option Addr) (n c : Nat) (l : List Lab) (w : World) (hm : okM m) (hl : Comes w 2 encL okL A n c l) :
    Calls Try.prog 5 #[.agg #[.int .i64 m.1, .string m.2.1, .string m.2.2], .slice A n c] w fun e w' => e = .returned (.bool true) ∧ Below w.heap.size w w' := matchNot_all m A n c l w hm hl
theorem byte_of {a : Int} (h : (Lit.int .u8 a).wf = true) : ∃ x : Nat, x ≤ 255 ∧ a = (x : Int) := by
  have h3 : IntKind.u8.min ≤ a ∧ a ≤ IntKind.u8.max := by simpa [Lit.wf] using h
  have e1 : IntKind.u8.min = 0 := by decide
  have e2 : IntKind.u8.max = 255 := by decide
  exact ⟨a.toNat, by omega, by omega⟩
theorem matchKinds_fin (nm vl : ByteArray) (at_ : Int) (A : Option Addr) (n c : Nat) (l : List Lab) (w : World) (hnm : nm.size ≤ maxLen) (hvl : vl.size ≤ maxLen) (hat : (Lit.int .u8 at_).wf = true) (hl : Comes w 2 encL okL A n c l) :
    Calls Try.prog 8 #[.string nm, .string vl, .int .u8 at_, .slice A n c] w fun e w' => e = .returned (.bool true) ∧ Below w.heap.size w w' := by
  obtain ⟨x, h1, rfl⟩ := byte_of hat
  exact matchKinds_all nm vl x A n c l w hnm hvl h1 hl
end Go.Proofs.Ytdacefmcnjoboaa.LabW
