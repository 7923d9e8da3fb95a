/-
  HOW LABELS THAT CAME IN ARE OPENED.
-/
import Derived.Test.YtgnifdkoaajboaaLabGet
namespace Go.Proofs.Ytgnifdkoaajboaa
open Go.RowKit Go.Shelf LabM Go.ChangeShapes Go.WideShapes Go.Deep LabW
section
variable {H : Type} {enc : TypeId × Value → H} {w : World} {base : Nat} {spare : Nat → Bool} {held : Bool}
theorem dec_lab : ∀ n cs y, DataW.trod enc Try.prog w base spare held n 38 cs = some y → ∃ x, cs = encL x ∧ okL x := by
  intro n cs y h
  obtain ⟨hl, hf⟩ := trod_cells Try.underlying38 (by kernel_rfl) (by kernel_rfl) h
  obtain ⟨v0, n0, y0, hc0, ht0⟩ := hf 0 _ rfl
  obtain ⟨v1, n1, y1, hc1, ht1⟩ := hf 1 _ rfl
  obtain ⟨a, ha, -, wa⟩ := DataW.trod_string Try.underlying9 ht0
  obtain ⟨b, hb, -, wb⟩ := DataW.trod_string Try.underlying9 ht1
  have hl2 : cs.length = 2 := hl
  match cs, hl2 with
  | [c0, c1], _ =>
    simp at hc0 hc1 ha hb
    exact ⟨(a, b), by unfold encL; simp [hc0, hc1, ha, hb], wa, wb⟩
variable {a0 : Option Addr} {len cap : Nat} {d : DataW H} {ps : List MemPlace}
theorem open_slice_of_api_Label (h : DataW.Trod enc Try.prog w base spare held 22 (.slice a0 len cap) d ps) : ∃ l, Comes w 2 encL okL a0 len cap l :=
  open_comes Try.underlying22 (by kernel_rfl) (by decide) encL okL (fun _ => rfl) dec_lab h
end
end Go.Proofs.Ytgnifdkoaajboaa
