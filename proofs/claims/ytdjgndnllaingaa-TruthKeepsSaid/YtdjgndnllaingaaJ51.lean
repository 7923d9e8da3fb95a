/-
  HOW OPERATIONS, AND NUMBERS, THAT CAME IN ARE OPENED.
  THE STATEMENTS OF CHAPTER 08: the walks and the openings side by side.
-/
import Derived.Test.YtdjgndnllaingaaJ38
import Derived.Test.YtdjgndnllaingaaJ14
import Derived.Test.YtdjgndnllaingaaJ45
import Derived.Test.YtdjgndnllaingaaJ46
import Derived.Test.YtdjgndnllaingaaJ47
import Derived.Test.YtdjgndnllaingaaJ48
import Derived.Test.YtdjgndnllaingaaJ49
import Derived.Test.YtdjgndnllaingaaJ50
import Derived.ChangeAt
/-
  HOW OPERATIONS, AND NUMBERS, THAT CAME IN ARE OPENED.
-/
namespace Go.Proofs.Ytdjgndnllaingaa
open Go.RowKit Go.Shelf LabM Go.ChangeShapes Go.WideShapes Go.Deep LabW TrW
section
variable {H : Type} {enc : TypeId × Value → H} {w : World} {base : Nat} {spare : Nat → Bool} {held : Bool}
theorem slice_form {P : Program} {t e : TypeId} (ht : P.underlying t = some (.slice e)) {n : Nat} {v : List Value} {y : DataW H × List MemPlace} (h : DataW.trod enc P w base spare held n t v = some y) : ∃ a l c, v = [Value.slice a l c] := by
  rcases open_slice ht h with ⟨hcs, _⟩ | ⟨a, len', cap', m, n, D, Pl, hcs, _⟩
  · exact ⟨none, 0, 0, hcs⟩
  · exact ⟨some a, len', cap', hcs⟩
theorem dec_op : ∀ n cs y, DataW.trod enc Try.prog w base spare held n 39 cs = some y → ∃ x, cs = encO x ∧ OkI w x := by
  intro n cs y h
  obtain ⟨hl, hf⟩ := trod_cells Try.underlying39 (by kernel_rfl) (by kernel_rfl) h
  obtain ⟨v0, n0, y0, hc0, ht0⟩ := hf 0 _ rfl
  obtain ⟨v1, n1, y1, hc1, ht1⟩ := hf 1 _ rfl
  obtain ⟨v2, n2, y2, hc2, ht2⟩ := hf 2 _ rfl
  obtain ⟨v3, n3, y3, hc3, ht3⟩ := hf 3 _ rfl
  obtain ⟨v4, n4, y4, hc4, ht4⟩ := hf 4 _ rfl
  obtain ⟨v5, n5, y5, hc5, ht5⟩ := hf 5 _ rfl
  obtain ⟨v6, n6, y6, hc6, ht6⟩ := hf 6 _ rfl
  obtain ⟨k, hk, -, wk⟩ := DataW.trod_int Try.underlying3 ht0
  obtain ⟨a1, l1, c1, h1⟩ := slice_form Try.underlying35 ht1
  obtain ⟨a2, l2, c2, h2⟩ := slice_form Try.underlying36 ht2
  obtain ⟨t, ht, -, wt⟩ := DataW.trod_int Try.underlying2 ht3
  obtain ⟨te, hte, -, wte⟩ := DataW.trod_int Try.underlying2 ht4
  obtain ⟨v, hv, -, wv⟩ := DataW.trod_int Try.underlying37 ht5
  obtain ⟨g, hg, -, wg⟩ := DataW.trod_int Try.underlying3 ht6
  injection h1 with h1 _
  injection h2 with h2 _
  subst h1 h2
  obtain ⟨L, hL⟩ := open_slice_of_api_Label (enc := enc) (w := w) (base := base) (spare := spare) (held := held) (a0 := a1) (len := l1) (cap := c1) (d := y1.1) (ps := y1.2) ⟨n1, ht1⟩
  obtain ⟨M, hM⟩ := open_slice_of_api_Matcher (enc := enc) (w := w) (base := base) (spare := spare) (held := held) (a0 := a2) (len := l2) (cap := c2) (d := y2.1) (ps := y2.2) ⟨n2, ht2⟩
  obtain ⟨x, hx, rfl⟩ := u64_of wv
  have hl7 : cs.length = 7 := hl
  match cs, hl7 with
  | [d0, d1, d2, d3, d4, d5, d6], _ =>
    simp at hc0 hc1 hc2 hc3 hc4 hc5 hc6 hk ht hte hv hg
    refine ⟨⟨k, ((a1, l1, c1), L), ((a2, l2, c2), M), t, te, (x : Int), g⟩, by unfold encO hdV; simp [hc0, hc1, hc2, hc3, hc4, hc5, hc6, hk, ht, hte, hv, hg], hL, hM, i64_of wt, i64_of wte, ?_⟩
    exact ⟨by show (0 : Int) ≤ (x : Int); omega, by show (x : Int) < _; omega⟩
theorem dec_int : ∀ n cs y, DataW.trod enc Try.prog w base spare held n 3 cs = some y → ∃ x : Int, cs = [.int .i64 x] ∧ True := by
  intro n cs y h
  obtain ⟨k, hk, -, wk⟩ := DataW.trod_int Try.underlying3 h
  exact ⟨k, hk, trivial⟩
variable {a0 : Option Addr} {len cap : Nat} {d : DataW H} {ps : List MemPlace}
theorem open_slice_of_api_Op (h : DataW.Trod enc Try.prog w base spare held 22 (.slice a0 len cap) d ps) : ∃ l, Ops w a0 len cap l := by
  obtain ⟨l, hl⟩ : ∃ l, Comes w 7 encO (OkI w) a0 len cap l := open_comes Try.underlying22 (by kernel_rfl) (by decide) encO (OkI w) (fun _ => rfl) dec_op h
  exact ⟨l, ⟨hl.len, hl.le, hl.cap, hl.lies, fun _ _ => trivial⟩, hl.ok⟩
theorem open_slice_of_int (h : DataW.Trod enc Try.prog w base spare held 23 (.slice a0 len cap) d ps) : ∃ l, Comes w 1 (fun x : Int => [Value.int .i64 x]) (fun _ => True) a0 len cap l :=
  open_comes Try.underlying23 (by kernel_rfl) (by decide) (fun x : Int => [Value.int .i64 x]) (fun _ => True) (fun _ => rfl) dec_int h
end
end Go.Proofs.Ytdjgndnllaingaa
/-
  THE STATEMENTS OF CHAPTER 08: the walks and the openings side by side.
-/
namespace Go.Proofs.Ytdjgndnllaingaa.TrW
open Go.RowKit Go.Shelf LabM LbM LabW FrW TrM
theorem u64_lie {v : Int} (h : (Lit.int .u64 v).wf = true) : 0 ≤ v ∧ v < 18446744073709551616 := by
  obtain ⟨x, hx, rfl⟩ := u64_of h
  exact ⟨by omega, by omega⟩
theorem tells_fin (A : Option Addr) (n c : Nat) (os : List OpH) (A2 : Option Addr) (n2 c2 : Nat) (gs : List Int) (w : World) (hl : Ops w A n c os) (hg : Comes w 1 (fun x : Int => [Value.int .i64 x]) (fun _ => True) A2 n2 c2 gs) :
    Calls Try.prog 3 #[.slice A n c, .slice A2 n2 c2] w fun e w' => e = .returned (.bool true) ∧ Below w.heap.size w w' := tells_walk A n c os A2 n2 c2 gs w hl hg
theorem rises_fin (A : Option Addr) (n c : Nat) (os : List OpH) (t : Int) (w : World) (hl : Ops w A n c os) (ht : (Lit.int .i64 t).wf = true) :
    Calls Try.prog 5 #[.slice A n c, .int .i64 t] w fun e w' => e = .returned (.bool true) ∧ Below w.heap.size w w' := rises_walk A n c os t w hl (i64_of ht)
theorem once_fin (A : Option Addr) (n c : Nat) (os : List OpH) (A2 : Option Addr) (n2 c2 : Nat) (x : List Lab) (t v u : Int) (w : World) (hl : Ops w A n c os) (hx : Comes w 2 encL okL A2 n2 c2 x) (ht : (Lit.int .i64 t).wf = true) (hv : (Lit.int .u64 v).wf = true) (hu : (Lit.int .u64 u).wf = true) :
    Calls Try.prog 6 #[.slice A n c, .slice A2 n2 c2, .int .i64 t, .int .u64 v, .int .u64 u] w fun e w' => e = .returned (.bool true) ∧ Below w.heap.size w w' := once_walk A n c os A2 n2 c2 x t v u w hl hx (i64_of ht) (u64_lie hv) (u64_lie hu)
theorem gone_fin (A : Option Addr) (n c : Nat) (os : List OpH) (A2 : Option Addr) (n2 c2 : Nat) (m : List Mat) (f t : Int) (w : World) (hl : Ops w A n c os) (hm : Comes w 3 encM okM A2 n2 c2 m) (hf : (Lit.int .i64 f).wf = true) (ht : (Lit.int .i64 t).wf = true) :
    Calls Try.prog 7 #[.slice A n c, .slice A2 n2 c2, .int .i64 f, .int .i64 t] w fun e w' => e = .returned (.bool true) ∧ Below w.heap.size w w' := gone_walk A n c os A2 n2 c2 m f t w hl hm (i64_of hf) (i64_of ht)
theorem keeps_fin (A : Option Addr) (n c : Nat) (os : List OpH) (t : Int) (A2 : Option Addr) (n2 c2 : Nat) (x : List Lab) (w : World) (hl : Ops w A n c os) (ht : (Lit.int .i64 t).wf = true) (hx : Comes w 2 encL okL A2 n2 c2 x) :
    Calls Try.prog 8 #[.slice A n c, .int .i64 t, .slice A2 n2 c2] w fun e w' => e = .returned (.bool true) ∧ Below w.heap.size w w' := keeps_walk A n c os t A2 n2 c2 x w hl hx (i64_of ht)
theorem asks_fin (A : Option Addr) (n c : Nat) (os : List OpH) (A2 : Option Addr) (n2 c2 : Nat) (m : List Mat) (w : World) (hl : Ops w A n c os) (hm : Comes w 3 encM okM A2 n2 c2 m) :
    Calls Try.prog 4 #[.slice A n c, .slice A2 n2 c2] w fun e w' => e = .returned (.bool true) ∧ Below w.heap.size w w' := asks_walk A n c os A2 n2 c2 m w hl hm
end Go.Proofs.Ytdjgndnllaingaa.TrW
