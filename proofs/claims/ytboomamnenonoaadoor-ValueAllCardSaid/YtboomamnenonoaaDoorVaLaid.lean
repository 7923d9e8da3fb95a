/-
  WHAT THE ROWS' CONDITION 'laid' GIVES THE WALKS: math/bits' table.
-/
import Derived.Test.YtboomamnenonoaaDoorBitsShelf
import Derived.Test.YtboomamnenonoaaDoorBitsMath
import Derived.Test.YtboomamnenonoaaDoorMem
import Derived.Lib.LaidU8
import Derived.LaidMore
namespace Go.Proofs.YtboomamnenonoaaDoor.BitsW
open Go.RowKit Go.Shelf BitsM
def lay1 {H : Type} : List (String × DataW H) := [("math/bits.deBruijn64tab", Rows.laid_math_bits_deBruijn64tab)]
theorem gTab : Tryd.prog.globalNamed "math/bits.deBruijn64tab" = some (Tryd.lays29_ren.g 1) := by kernel_rfl
theorem tTab : (Tryd.prog.globals[Tryd.lays29_ren.g 1]?).map (·.type) = some 75 := by kernel_rfl
theorem dTab : (Rows.laid_math_bits_deBruijn64tab : DataW Unit) = Lib.tabData .u8 (Lib.deBruijn64tab.map fun (x : Nat) => (x : Int)) := by kernel_rfl
theorem tab_of_laid {W : World} (h : laidMetH Tryd.prog lay1 W) : Tab W := by
  rw [MakeChecks.laidMetH_plain _ _ _ (by kernel_rfl)] at h
  obtain ⟨g, t, cs, fuel, p, hg, hty, hvar, hd⟩ := Lib.laidMet.reads h (.head _)
  obtain rfl := Option.some.inj (gTab.symm.trans hg)
  obtain rfl := Option.some.inj (tTab.symm.trans hty)
  rw [dTab] at hd
  have hcs := Lib.cells_of_tab Tryd.underlying75 Tryd.underlying5 (by kernel_rfl) (by kernel_rfl) hd
  intro j hj
  have hc := World.var?_cell hg hvar j
  rw [hc, ← Array.getElem?_toList, hcs]
  simp [hj]
end Go.Proofs.YtboomamnenonoaaDoor.BitsW
