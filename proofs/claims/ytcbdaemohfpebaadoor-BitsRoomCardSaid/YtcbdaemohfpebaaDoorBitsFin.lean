/-
  THE WALKS OF BitsPuts, BitsGets, BitsBack, BitsJoin, BitsRoom AT WHATEVER ARGUMENTS; how these are opened.
-/
import Derived.Test.YtcbdaemohfpebaaDoorBitsLaid
import Derived.Test.YtcbdaemohfpebaaDoorBitsLawG
import Derived.Test.YtcbdaemohfpebaaDoorBitsLawB
import Derived.Test.YtcbdaemohfpebaaDoorBitsLawJ
namespace Go.Proofs.YtcbdaemohfpebaaDoor
open Go.RowKit Go.Shelf BitsM Go.ChangeShapes Go.WideShapes Go.Deep BitsW
section
variable {H : Type} {enc : TypeId × Value → H} {w : World} {base : Nat} {spare : Nat → Bool} {held : Bool}
theorem dec_put : ∀ n cs y, DataW.trod enc Tryd.prog w base spare held n 29 cs = some y → ∃ x, cs = encPut x ∧ okPut x := by
  intro n cs y h
  obtain ⟨hl, hf⟩ := trod_cells Tryd.underlying29 (by kernel_rfl) (by kernel_rfl) h
  obtain ⟨v0, n0, y0, hc0, ht0⟩ := hf 0 _ rfl
  obtain ⟨v1, n1, y1, hc1, ht1⟩ := hf 1 _ rfl
  obtain ⟨a, ha, -, wa⟩ := DataW.trod_int Tryd.underlying27 ht0
  obtain ⟨b, hb, -, wb⟩ := DataW.trod_int Tryd.underlying3 ht1
  obtain ⟨x, hx, rfl⟩ := u64_of wa
  obtain ⟨b0, b1⟩ := i64_of wb
  have hl2 : cs.length = 2 := hl
  match cs, hl2 with
  | [c0, c1], _ =>
    simp at hc0 hc1 ha hb
    exact ⟨(x, b), by unfold encPut; simp [hc0, hc1, ha, hb], hx, b0, b1⟩
theorem open_slice_of_alluviumlaw02_Put {a0 : Option Addr} {len cap : Nat} {d : DataW H} {ps : List MemPlace} (h : DataW.Trod enc Tryd.prog w base spare held 22 (.slice a0 len cap) d ps) : ∃ l, Comes w 2 encPut okPut a0 len cap l :=
  open_comes Tryd.underlying22 (by kernel_rfl) (by decide) encPut okPut (fun _ => rfl) dec_put h
theorem dec_i64 : ∀ n cs y, DataW.trod enc Tryd.prog w base spare held n 3 cs = some y → ∃ x, cs = encI x ∧ okI x := by
  intro n cs y h
  obtain ⟨a, rfl, -, wa⟩ := DataW.trod_int Tryd.underlying3 h
  exact ⟨a, rfl, i64_of wa⟩
theorem open_slice_of_int {a0 : Option Addr} {len cap : Nat} {d : DataW H} {ps : List MemPlace} (h : DataW.Trod enc Tryd.prog w base spare held 35 (.slice a0 len cap) d ps) : ∃ l, Comes w 1 encI okI a0 len cap l :=
  open_comes Tryd.underlying35 (by kernel_rfl) (by decide) encI okI (fun _ => rfl) dec_i64 h
end
theorem bitsPuts_all (A : Option Addr) (n c : Nat) (l : List (Nat × Int)) (w : World) (hl : Comes w 2 encPut okPut A n c l) (hT : Tab w) :
    Calls Tryd.prog 3 #[.slice A n c] w fun e w' => e = .returned (.bool true) ∧ Below w.heap.size w w' := bitsPuts_walk A n c l w hl hT
theorem bitsGets_all (s : ByteArray) (A : Option Addr) (n c : Nat) (l : List Int) (w : World) (hs : s.size ≤ maxLen) (hl : Comes w 1 encI okI A n c l) (hT : Tab w) :
    Calls Tryd.prog 4 #[.string s, .slice A n c] w fun e w' => e = .returned (.bool true) ∧ Below w.heap.size w w' := by
  by_cases h : 60 < s.size ∨ 60 < n
  · exact bitsGets_far s A n c l w hs hl hT h
  · exact bitsGets_near s A n c l w (by omega) (by omega) hl hT
theorem bitsBack_all (A : Option Addr) (n c : Nat) (l : List (Nat × Int)) (w : World) (hl : Comes w 2 encPut okPut A n c l) (hT : Tab w) :
    Calls Tryd.prog 6 #[.slice A n c] w fun e w' => e = .returned (.bool true) ∧ Below w.heap.size w w' := by
  by_cases h : 60 < n
  · exact bitsBack_far A n c l w hl hT h
  · exact bitsBack_near A n c l w hl (by omega) hT
theorem u8_of {a : Int} (h : (Lit.int .u8 a).wf = true) : ∃ x : Nat, x ≤ 255 ∧ a = (x : Int) := by
  have h3 : IntKind.u8.min ≤ a ∧ a ≤ IntKind.u8.max := by simpa [Lit.wf] using h
  have e1 : IntKind.u8.min = 0 := by decide
  have e2 : IntKind.u8.max = 255 := by decide
  exact ⟨a.toNat, by omega, by omega⟩
theorem bitsJoin_all (v N K : Int) (A : Option Addr) (n c : Nat) (l : List (Nat × Int)) (w : World) (hv : (Lit.int .u64 v).wf = true) (hN : (Lit.int .u8 N).wf = true) (hK : (Lit.int .u8 K).wf = true) (hl : Comes w 2 encPut okPut A n c l) (hT : Tab w) :
    Calls Tryd.prog 7 #[.int .u64 v, .int .u8 N, .int .u8 K, .slice A n c] w fun e w' => e = .returned (.bool true) ∧ Below w.heap.size w w' := by
  obtain ⟨v, xv, rfl⟩ := u64_of hv
  obtain ⟨N, xN, rfl⟩ := u8_of hN
  obtain ⟨K, xK, rfl⟩ := u8_of hK
  by_cases h : 60 < n
  · exact bitsJoin_far v N K A n c l w hl hT h
  · exact bitsJoin_near v N K A n c l w xv xN xK hl (by omega) hT
theorem bitsRoom_all (A : Option Addr) (n c : Nat) (l : List (Nat × Int)) (s : ByteArray) (w : World) (hl : Comes w 2 encPut okPut A n c l) (hs : s.size ≤ maxLen) (hT : Tab w) :
    Calls Tryd.prog 8 #[.slice A n c, .string s] w fun e w' => e = .returned (.bool true) ∧ Below w.heap.size w w' := by
  by_cases h : 60 < n ∨ 60 < s.size
  · exact bitsRoom_far A n c l s w hl hs hT h
  · exact bitsRoom_near A n c l s w hl (by omega) (by omega) hT
end Go.Proofs.YtcbdaemohfpebaaDoor
