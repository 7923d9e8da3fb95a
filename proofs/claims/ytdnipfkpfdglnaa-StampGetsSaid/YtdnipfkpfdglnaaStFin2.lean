/-
  THE WALKS OF StampAll, StampPuts AT WHATEVER ARGUMENTS.
-/
import Derived.Test.YtdnipfkpfdglnaaStFin
import Derived.Test.YtdnipfkpfdglnaaStLawF
import Derived.Test.YtdnipfkpfdglnaaStLawG
namespace Go.Proofs.Ytdnipfkpfdglnaa
open Go.RowKit Go.Shelf BitsM BitsW StM StW Go.ChangeShapes Go.WideShapes Go.Deep
section
variable {H : Type} {enc : TypeId × Value → H} {w : World} {base : Nat} {spare : Nat → Bool} {held : Bool}
theorem dec_st : ∀ n cs y, DataW.trod enc Try.prog w base spare held n 23 cs = some y → ∃ x : St, cs = [.int .i64 x.1, .int .i64 x.2.1, .int .i64 x.2.2] ∧ okSt x := by
  intro n cs y h
  obtain ⟨hl, hf⟩ := trod_cells Try.underlying23 (by kernel_rfl) (by kernel_rfl) h
  obtain ⟨v0, n0, y0, hc0, ht0⟩ := hf 0 _ rfl
  obtain ⟨v1, n1, y1, hc1, ht1⟩ := hf 1 _ rfl
  obtain ⟨v2, n2, y2, hc2, ht2⟩ := hf 2 _ rfl
  obtain ⟨a, ha, -, wa⟩ := DataW.trod_int Try.underlying3 ht0
  obtain ⟨b, hb, -, wb⟩ := DataW.trod_int Try.underlying2 ht1
  obtain ⟨c, hc, -, wc⟩ := DataW.trod_int Try.underlying2 ht2
  have hl2 : cs.length = 3 := hl
  match cs, hl2 with
  | [c0, c1, c2], _ =>
    simp at hc0 hc1 hc2 ha hb hc
    exact ⟨(a, b, c), by simp [hc0, hc1, hc2, ha, hb, hc], i64_of wa, i64_of wb, i64_of wc⟩
set_option maxRecDepth 100000 in
theorem open_stamp_State {r : Reach} {b2 : Nat} {v : Value} {d : DataW H} {ps : List MemPlace} (hv : Value.okWide Try.prog w r b2 23 v) (h : DataW.Trod enc Try.prog w base spare held 23 v d ps) : ∃ s : St, v = .agg #[.int .i64 s.1, .int .i64 s.2.1, .int .i64 s.2.2] ∧ okSt s := by
  obtain ⟨cs, rfl, hsz⟩ := okWide_struct Try.underlying23 hv
  obtain ⟨n, h⟩ := h
  obtain ⟨x, hx, hok⟩ := dec_st _ _ _ h
  refine ⟨x, ?_, hok⟩
  obtain ⟨l⟩ := cs
  have e : l = [.int .i64 x.1, .int .i64 x.2.1, .int .i64 x.2.2] := hx
  rw [e]
end
namespace StW
theorem stampAll_fin (A : Option Addr) (n c : Nat) (l : List Int) (B : ByteArray) (k : Int) (w : World) (hl : Comes w 1 encI okI A n c l) (hB : B.size ≤ maxLen) (_ : (Lit.int .i64 k).wf = true) :
    Calls Try.prog 5 #[.slice A n c, .string B, .int .i64 k] w fun e w' => e = .returned (.bool true) ∧ Below w.heap.size w w' := stampAll_all A n c l B k w hl hB
theorem stampPuts_fin (s : St) (t : Int) (w : World) (_ : okSt s) (_ : (Lit.int .i64 t).wf = true) :
    Calls Try.prog 3 #[.agg #[.int .i64 s.1, .int .i64 s.2.1, .int .i64 s.2.2], .int .i64 t] w fun e w' => e = .returned (.bool true) ∧ Below w.heap.size w w' := stampPuts_all s t w
end StW
end Go.Proofs.Ytdnipfkpfdglnaa
