/-
  THE WALKS OF ValueBack, ValueTurned, ValueSteady AT WHATEVER ARGUMENTS; how these are opened.
-/
import Derived.Test.YtboomamnenonoaaDoorVaLaid
import Derived.Test.YtboomamnenonoaaDoorVaLawB
import Derived.Lib.SmallJoins
namespace Go.Proofs.YtboomamnenonoaaDoor
open Go.RowKit Go.Shelf BitsM BitsW VaM VaW Go.ChangeShapes Go.WideShapes Go.Deep
section
variable {H : Type} {enc : TypeId × Value → H} {w : World} {base : Nat} {spare : Nat → Bool} {held : Bool}
theorem dec_u64 : ∀ n cs y, DataW.trod enc Tryd.prog w base spare held n 29 cs = some y → ∃ x, cs = VaW.encU x ∧ VaM.okU x := by
  intro n cs y h
  obtain ⟨a, rfl, -, wa⟩ := DataW.trod_int Tryd.underlying29 h
  obtain ⟨x, hx, rfl⟩ := u64_of wa
  exact ⟨x, rfl, hx⟩
theorem open_slice_of_uint64 {a0 : Option Addr} {len cap : Nat} {d : DataW H} {ps : List MemPlace} (h : DataW.Trod enc Tryd.prog w base spare held 22 (.slice a0 len cap) d ps) : ∃ l, Comes w 1 VaW.encU VaM.okU a0 len cap l :=
  open_comes Tryd.underlying22 (by kernel_rfl) (by decide) VaW.encU VaM.okU (fun _ => rfl) dec_u64 h
end
theorem byte_of {a : Int} (h : (Lit.int .u8 a).wf = true) : ∃ x : Nat, x ≤ 255 ∧ a = (x : Int) := by
  have h3 : IntKind.u8.min ≤ a ∧ a ≤ IntKind.u8.max := by simpa [Lit.wf] using h
  have e1 : IntKind.u8.min = 0 := by decide
  have e2 : IntKind.u8.max = 255 := by decide
  exact ⟨a.toNat, by omega, by omega⟩
namespace VaW
theorem valueBack_fin (A : Option Addr) (n c : Nat) (l : List Nat) (B : ByteArray) (k : Int) (w : World) (hl : Comes w 1 encU okU A n c l) (hB : B.size ≤ maxLen) (_ : (Lit.int .i64 k).wf = true) (hT : Tab w) :
    Calls Tryd.prog 4 #[.slice A n c, .string B, .int .i64 k] w fun e w' => e = .returned (.bool true) ∧ Below w.heap.size w w' := valueBack_all A n c l B k w hl hB hT
theorem valueTurned_fin (A : Option Addr) (n c : Nat) (l : List Nat) (d : Int) (w : World) (hl : Comes w 1 encU okU A n c l) (hd : (Lit.int .u64 d).wf = true) (hT : Tab w) :
    Calls Tryd.prog 6 #[.slice A n c, .int .u64 d] w fun e w' => e = .returned (.bool true) ∧ Below w.heap.size w w' := by
  obtain ⟨x, hx, rfl⟩ := u64_of hd
  exact valueTurned_all A n c l x w hl hx hT
theorem valueSteady_fin (v n : Int) (w : World) (hv : (Lit.int .u64 v).wf = true) (hn : (Lit.int .u8 n).wf = true) (hT : Tab w) :
    Calls Tryd.prog 7 #[.int .u64 v, .int .u8 n] w fun e w' => e = .returned (.bool true) ∧ Below w.heap.size w w' := by
  obtain ⟨x, h1, rfl⟩ := u64_of hv
  obtain ⟨y, h2, rfl⟩ := byte_of hn
  exact valueSteady_all x y w h1 h2 hT
end VaW
end Go.Proofs.YtboomamnenonoaaDoor
