/-
  THE WALK OF ValueStays AT WHATEVER ARGUMENTS; how these are opened.
-/
import Derived.Test.YtboomamnenonoaaDoorVaFin
import Derived.Test.YtboomamnenonoaaDoorVaLawS
namespace Go.Proofs.YtboomamnenonoaaDoor
open Go.RowKit Go.Shelf BitsM BitsW VaM VaW Go.ChangeShapes Go.WideShapes Go.Deep
section
variable {H : Type} {enc : TypeId × Value → H} {w : World} {base : Nat} {spare : Nat → Bool} {held : Bool}
theorem dec_va : ∀ n cs y, DataW.trod enc Tryd.prog w base spare held n 31 cs = some y → ∃ x : Int × Int × Int × Int, cs = [.int .i64 x.1, .int .u64 x.2.1, .int .i64 x.2.2.1, .int .i64 x.2.2.2] ∧ (0 ≤ x.2.1 ∧ x.2.1 < 18446744073709551616) ∧ x.2.2.2 ≤ 9223372036854775807 := by
  intro n cs y h
  obtain ⟨hl, hf⟩ := trod_cells Tryd.underlying31 (by kernel_rfl) (by kernel_rfl) h
  obtain ⟨v0, n0, y0, hc0, ht0⟩ := hf 0 _ rfl
  obtain ⟨v1, n1, y1, hc1, ht1⟩ := hf 1 _ rfl
  obtain ⟨v2, n2, y2, hc2, ht2⟩ := hf 2 _ rfl
  obtain ⟨v3, n3, y3, hc3, ht3⟩ := hf 3 _ rfl
  obtain ⟨a, ha, -, wa⟩ := DataW.trod_int Tryd.underlying3 ht0
  obtain ⟨b, hb, -, wb⟩ := DataW.trod_int Tryd.underlying29 ht1
  obtain ⟨c, hc, -, wc⟩ := DataW.trod_int Tryd.underlying3 ht2
  obtain ⟨d, hd, -, wd⟩ := DataW.trod_int Tryd.underlying3 ht3
  have hl2 : cs.length = 4 := hl
  match cs, hl2 with
  | [c0, c1, c2, c3], _ =>
    simp at hc0 hc1 hc2 hc3 ha hb hc hd
    obtain ⟨x, hx, hx2⟩ := u64_of wb
    exact ⟨(a, b, c, d), by simp [hc0, hc1, hc2, hc3, ha, hb, hc, hd], ⟨by show 0 ≤ b; omega, by show b < _; omega⟩, (i64_of wd).2⟩
set_option maxRecDepth 100000 in
theorem open_value_State {r : Reach} {b2 : Nat} {v : Value} {d : DataW H} {ps : List MemPlace} (hv : Value.okWide Tryd.prog w r b2 31 v) (h : DataW.Trod enc Tryd.prog w base spare held 31 v d ps) : ∃ x : Int × Int × Int × Int, v = .agg #[.int .i64 x.1, .int .u64 x.2.1, .int .i64 x.2.2.1, .int .i64 x.2.2.2] ∧ (0 ≤ x.2.1 ∧ x.2.1 < 18446744073709551616) ∧ x.2.2.2 ≤ 9223372036854775807 := by
  obtain ⟨cs, rfl, hsz⟩ := okWide_struct Tryd.underlying31 hv
  obtain ⟨n, h⟩ := h
  obtain ⟨x, hx, hok⟩ := dec_va _ _ _ h
  refine ⟨x, ?_, hok⟩
  obtain ⟨l⟩ := cs
  have e : l = [.int .i64 x.1, .int .u64 x.2.1, .int .i64 x.2.2.1, .int .i64 x.2.2.2] := hx
  rw [e]
end
namespace VaW
theorem valueStays_fin (s : Int × Int × Int × Int) (A : Option Addr) (n c : Nat) (l : List Nat) (w : World) (hs : (0 ≤ s.2.1 ∧ s.2.1 < 18446744073709551616) ∧ s.2.2.2 ≤ 9223372036854775807) (hl : Comes w 1 encU okU A n c l) (hT : Tab w) :
    Calls Tryd.prog 5 #[.agg #[.int .i64 s.1, .int .u64 s.2.1, .int .i64 s.2.2.1, .int .i64 s.2.2.2], .slice A n c] w fun e w' => e = .returned (.bool true) ∧ Below w.heap.size w w' := valueStays_all s.1 s.2.1 s.2.2.1 s.2.2.2 A n c l w hs.1 hs.2 hl hT
end VaW
end Go.Proofs.YtboomamnenonoaaDoor
