/-
  FrameJoins: THE WALK AT WHATEVER ARGUMENTS; how a row of texts is opened.
-/
import Derived.Test.YtmaehbcjcifchaaFrLawJ
import Derived.Test.YtmaehbcjcifchaaFrFin
namespace Go.Proofs.Ytmaehbcjcifchaa
open Go.RowKit Go.Shelf Go.ChangeShapes Go.WideShapes Go.Deep FrW FrM
section
variable {H : Type} {enc : TypeId × Value → H} {w : World} {base : Nat} {spare : Nat → Bool} {held : Bool} {a0 : Option Addr} {len cap : Nat} {d : DataW H} {ps : List MemPlace}
theorem dec_t : ∀ n cs y, DataW.trod enc Try.prog w base spare held n 9 cs = some y → ∃ x, cs = encT x ∧ okT x := by
  intro n cs y h
  obtain ⟨a, ha, -, wa⟩ := DataW.trod_string Try.underlying9 h
  obtain ⟨l, rfl, hl⟩ := in_bs a wa
  exact ⟨l, ha, hl⟩
theorem open_slice_of_string (h : DataW.Trod enc Try.prog w base spare held 33 (.slice a0 len cap) d ps) : ∃ l, Comes w 1 encT okT a0 len cap l :=
  open_comes Try.underlying33 (by kernel_rfl) (by decide) encT okT (fun _ => rfl) dec_t h
end
namespace FrW
theorem frameJoins_fin (A : Option Addr) (n c : Nat) (l : List (List UInt8)) (s : ByteArray) (w : World) (hl : Comes w 1 encT okT A n c l) (hs : s.size ≤ maxLen) :
    Calls Try.prog 8 #[.slice A n c, .string s] w fun e w' => e = .returned (.bool true) ∧ Below w.heap.size w w' := by
  obtain ⟨s, rfl, hs'⟩ := in_bs s hs
  exact frameJoins_all A n c l s w hl hs'
end FrW
end Go.Proofs.Ytmaehbcjcifchaa
