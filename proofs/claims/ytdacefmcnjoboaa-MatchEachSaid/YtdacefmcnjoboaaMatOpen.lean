/-
  HOW ARGUMENTS ARE OPENED: labels, matchers, samples, rows of labels; a matcher.
-/
import Derived.Test.YtdacefmcnjoboaaMatRow
import Derived.Lib.SmallJoins
namespace Go.Proofs.Ytdacefmcnjoboaa
open Go.RowKit Go.Shelf LabM Go.ChangeShapes Go.WideShapes Go.Deep LabW
section
variable {H : Type} {enc : TypeId × Value → H} {w : World} {base : Nat} {spare : Nat → Bool} {held : Bool}
theorem dec_sam : ∀ n cs y, DataW.trod enc Try.prog w base spare held n 52 cs = some y → ∃ x, cs = encS x ∧ okS x := by
  intro n cs y h
  obtain ⟨hl, hf⟩ := trod_cells Try.underlying52 (by kernel_rfl) (by kernel_rfl) h
  obtain ⟨v0, n0, y0, hc0, ht0⟩ := hf 0 _ rfl
  obtain ⟨v1, n1, y1, hc1, ht1⟩ := hf 1 _ rfl
  obtain ⟨a, ha, -, wa⟩ := DataW.trod_int Try.underlying2 ht0
  obtain ⟨b, hb, -, wb⟩ := DataW.trod_int Try.underlying50 ht1
  obtain ⟨b0, b1⟩ := i64_of wa
  obtain ⟨x, hx, rfl⟩ := u64_of wb
  have hl2 : cs.length = 2 := hl
  match cs, hl2 with
  | [c0, c1], _ =>
    simp at hc0 hc1 ha hb
    exact ⟨(a, x), by unfold encS; simp [hc0, hc1, ha, hb], b0, b1, by omega, by show (x : Int) < _; omega⟩
theorem dec_lab : ∀ n cs y, DataW.trod enc Try.prog w base spare held n 49 cs = some y → ∃ x, cs = encL x ∧ okL x := by
  intro n cs y h
  obtain ⟨hl, hf⟩ := trod_cells Try.underlying49 (by kernel_rfl) (by kernel_rfl) h
  obtain ⟨v0, n0, y0, hc0, ht0⟩ := hf 0 _ rfl
  obtain ⟨v1, n1, y1, hc1, ht1⟩ := hf 1 _ rfl
  obtain ⟨a, ha, -, wa⟩ := DataW.trod_string Try.underlying9 ht0
  obtain ⟨b, hb, -, wb⟩ := DataW.trod_string Try.underlying9 ht1
  have hl2 : cs.length = 2 := hl
  match cs, hl2 with
  | [c0, c1], _ =>
    simp at hc0 hc1 ha hb
    exact ⟨(a, b), by unfold encL; simp [hc0, hc1, ha, hb], wa, wb⟩
theorem dec_mat : ∀ n cs y, DataW.trod enc Try.prog w base spare held n 32 cs = some y → ∃ x, cs = encM x ∧ okM x := by
  intro n cs y h
  obtain ⟨hl, hf⟩ := trod_cells Try.underlying32 (by kernel_rfl) (by kernel_rfl) h
  obtain ⟨v0, n0, y0, hc0, ht0⟩ := hf 0 _ rfl
  obtain ⟨v1, n1, y1, hc1, ht1⟩ := hf 1 _ rfl
  obtain ⟨v2, n2, y2, hc2, ht2⟩ := hf 2 _ rfl
  obtain ⟨k, hk, -, wk⟩ := DataW.trod_int Try.underlying3 ht0
  obtain ⟨a, ha, -, wa⟩ := DataW.trod_string Try.underlying9 ht1
  obtain ⟨b, hb, -, wb⟩ := DataW.trod_string Try.underlying9 ht2
  obtain ⟨b0, b1⟩ := i64_of wk
  have hl2 : cs.length = 3 := hl
  match cs, hl2 with
  | [c0, c1, c2], _ =>
    simp at hc0 hc1 hc2 hk ha hb
    exact ⟨(k, a, b), by unfold encM; simp [hc0, hc1, hc2, hk, ha, hb], b0, b1, wa, wb⟩
variable {a0 : Option Addr} {len cap : Nat} {d : DataW H} {ps : List MemPlace}
theorem open_slice_of_api_Sample (h : DataW.Trod enc Try.prog w base spare held 38 (.slice a0 len cap) d ps) : ∃ l, Comes w 2 encS okS a0 len cap l :=
  open_comes Try.underlying38 (by kernel_rfl) (by decide) encS okS (fun _ => rfl) dec_sam h
theorem open_slice_of_api_Label (h : DataW.Trod enc Try.prog w base spare held 28 (.slice a0 len cap) d ps) : ∃ l, Comes w 2 encL okL a0 len cap l :=
  open_comes Try.underlying28 (by kernel_rfl) (by decide) encL okL (fun _ => rfl) dec_lab h
theorem open_slice_of_api_Matcher (h : DataW.Trod enc Try.prog w base spare held 22 (.slice a0 len cap) d ps) : ∃ l, Comes w 3 encM okM a0 len cap l :=
  open_comes Try.underlying22 (by kernel_rfl) (by decide) encM okM (fun _ => rfl) dec_mat h
def hdrIn (w : World) (x : Hdr) : Prop := Comes w 2 encL okL x.1.1 x.1.2.1 x.1.2.2 x.2
theorem dec_hdr : ∀ n cs y, DataW.trod enc Try.prog w base spare held n 28 cs = some y → ∃ x, cs = encH x ∧ hdrIn w x := by
  intro n cs y h
  have key : ∃ a l c, cs = [Value.slice a l c] := by
    rcases open_slice Try.underlying28 h with ⟨hcs, _⟩ | ⟨a, len', cap', m, n, D, Pl, hcs, _⟩
    · exact ⟨none, 0, 0, hcs⟩
    · exact ⟨some a, len', cap', hcs⟩
  obtain ⟨a, l, c, rfl⟩ := key
  obtain ⟨L, hL⟩ := open_slice_of_api_Label (enc := enc) (w := w) (base := base) (spare := spare) (held := held) (a0 := a) (len := l) (cap := c) (d := y.1) (ps := y.2) ⟨n, h⟩
  exact ⟨((a, l, c), L), rfl, hL⟩
theorem open_slice_of___api_Label (h : DataW.Trod enc Try.prog w base spare held 23 (.slice a0 len cap) d ps) : ∃ l, Comes w 1 encH (hdrIn w) a0 len cap l :=
  open_comes Try.underlying23 (by kernel_rfl) (by decide) encH (hdrIn w) (fun _ => rfl) dec_hdr h
set_option maxRecDepth 100000 in
theorem open_api_Matcher {r : Reach} {b2 : Nat} {v : Value} (hv : Value.okWide Try.prog w r b2 32 v) (h : DataW.Trod enc Try.prog w base spare held 32 v d ps) : ∃ m : Mat, v = .agg #[.int .i64 m.1, .string m.2.1, .string m.2.2] ∧ okM m := by
  obtain ⟨cs, rfl, hsz⟩ := okWide_struct Try.underlying32 hv
  obtain ⟨n, h⟩ := h
  obtain ⟨x, hx, hok⟩ := dec_mat _ _ _ h
  refine ⟨x, ?_, hok⟩
  obtain ⟨l⟩ := cs
  have e : l = [.int .i64 x.1, .string x.2.1, .string x.2.2] := hx
  rw [e]
end
end Go.Proofs.Ytdacefmcnjoboaa
