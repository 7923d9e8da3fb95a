/-
  THE WALKS OF StampBack, StampCosts, StampMoves, StampSteady AT WHATEVER ARGUMENTS; how these are opened.
-/
import Derived.Test.YtdnipfkpfdglnaaStLawC
import Derived.Test.YtdnipfkpfdglnaaStLawE
import Derived.Lib.SmallJoins
namespace Go.Proofs.Ytdnipfkpfdglnaa
open Go.RowKit Go.Shelf BitsM BitsW StM StW Go.ChangeShapes Go.WideShapes Go.Deep
section
variable {H : Type} {enc : TypeId × Value → H} {w : World} {base : Nat} {spare : Nat → Bool} {held : Bool}
theorem dec_i64 : ∀ n cs y, DataW.trod enc Try.prog w base spare held n 2 cs = some y → ∃ x, cs = StW.encI x ∧ StM.okI x := by
  intro n cs y h
  obtain ⟨a, rfl, -, wa⟩ := DataW.trod_int Try.underlying2 h
  exact ⟨a, rfl, i64_of wa⟩
theorem open_slice_of_int64 {a0 : Option Addr} {len cap : Nat} {d : DataW H} {ps : List MemPlace} (h : DataW.Trod enc Try.prog w base spare held 47 (.slice a0 len cap) d ps) : ∃ l, Comes w 1 StW.encI StM.okI a0 len cap l :=
  open_comes Try.underlying47 (by kernel_rfl) (by decide) StW.encI StM.okI (fun _ => rfl) dec_i64 h
end
theorem byte_of {a : Int} (h : (Lit.int .u8 a).wf = true) : ∃ x : Nat, x ≤ 255 ∧ a = (x : Int) := by
  have h3 : IntKind.u8.min ≤ a ∧ a ≤ IntKind.u8.max := by simpa [Lit.wf] using h
  have e1 : IntKind.u8.min = 0 := by decide
  have e2 : IntKind.u8.max = 255 := by decide
  exact ⟨a.toNat, by omega, by omega⟩
namespace StW
theorem stampBack_fin (A : Option Addr) (n c : Nat) (l : List Int) (B : ByteArray) (k : Int) (w : World) (hl : Comes w 1 encI okI A n c l) (hB : B.size ≤ maxLen) (_ : (Lit.int .i64 k).wf = true) :
    Calls Try.prog 6 #[.slice A n c, .string B, .int .i64 k] w fun e w' => e = .returned (.bool true) ∧ Below w.heap.size w w' := stampBack_all A n c l B k w hl hB
theorem stampCosts_fin (A : Option Addr) (n c : Nat) (l : List Int) (w : World) (hl : Comes w 1 encI okI A n c l) :
    Calls Try.prog 8 #[.slice A n c] w fun e w' => e = .returned (.bool true) ∧ Below w.heap.size w w' := stampCosts_all A n c l w hl
theorem stampMoves_fin (A : Option Addr) (n c : Nat) (l : List Int) (d : Int) (w : World) (hl : Comes w 1 encI okI A n c l) (_ : (Lit.int .i64 d).wf = true) :
    Calls Try.prog 9 #[.slice A n c, .int .i64 d] w fun e w' => e = .returned (.bool true) ∧ Below w.heap.size w w' := stampMoves_all A n c l d w hl
theorem stampSteady_fin (f d n : Int) (w : World) (hf : (Lit.int .i64 f).wf = true) (_ : (Lit.int .i64 d).wf = true) (hn : (Lit.int .u8 n).wf = true) :
    Calls Try.prog 7 #[.int .i64 f, .int .i64 d, .int .u8 n] w fun e w' => e = .returned (.bool true) ∧ Below w.heap.size w w' := by
  obtain ⟨x, h1, rfl⟩ := byte_of hn
  exact stampSteady_all f d x w (i64_of hf) h1
end StW
end Go.Proofs.Ytdnipfkpfdglnaa
