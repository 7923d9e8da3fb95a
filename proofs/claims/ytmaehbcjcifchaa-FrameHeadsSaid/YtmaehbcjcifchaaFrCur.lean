/-
  num.Cursor: Small, Take; frame.unended: THE WALKS.
-/
import Derived.Test.YtmaehbcjcifchaaFrNum
namespace Go.Proofs.Ytmaehbcjcifchaa.FrW
set_option linter.unusedVariables false
open Go.RowKit CrcM CrcW FrM
/-- A cursor in the block g. -/
def CurAt (W : World) (g : Nat) (l : List UInt8) (bad : Bool) : Prop := W.heap[g]? = some (.cells #[.string (bs l), .bool bad] 47 (0, 0))
theorem CurAt.c0 {W : World} {g : Nat} {l : List UInt8} {b : Bool} (h : CurAt W g l b) : W.cell? ⟨g, 0, none⟩ = some (.string (bs l)) := by rw [cell_of_row W _ _ _ _ _ h]; rfl
theorem CurAt.c1 {W : World} {g : Nat} {l : List UInt8} {b : Bool} (h : CurAt W g l b) : W.cell? ⟨g, 1, none⟩ = some (.bool b) := by rw [cell_of_row W _ _ _ _ _ h]; rfl
theorem CurAt.later {W W' : World} {g : Nat} {l : List UInt8} {b : Bool} (h : CurAt W g l b) (hb : Below W.heap.size W W') : CurAt W' g l b := (hb.block _ (Array.getElem?_eq_some_iff.1 h).1).trans h
theorem CurAt.setS {W : World} {g : Nat} {l : List UInt8} {b : Bool} (h : CurAt W g l b) (m : List UInt8) : CurAt (W.setCell ⟨g, 0, none⟩ (.string (bs m))) g m b := heap_setCell_same W g 0 _ _ _ h
theorem CurAt.setB {W : World} {g : Nat} {l : List UInt8} {b : Bool} (h : CurAt W g l b) (c : Bool) : CurAt (W.setCell ⟨g, 1, none⟩ (.bool c)) g l c := heap_setCell_same W g 1 _ _ _ h
set_option maxHeartbeats 1000000 in
theorem take64_none (B g : Nat) (l : List UInt8) (w : World) (h : CurAt w g l false) (hB : B ≤ g) (hl : l.length ≤ 2199023255552) (hg : gs 0 0 l = none) :
    Calls Try.prog 28 #[.pointer (some ⟨g, 0, none⟩), .func (Fn.func 29) #[] #[]] w fun e w' => e = .returned (.int .u64 0) ∧ CurAt w' g l true ∧ Below B w w' := by
  have c0 := h.c0
  have c1 := h.c1
  have f1 : w.frozen? ⟨g, 1, none⟩ = false := frozen_of_row w g 1 _ _ h
  have HS := Lib.hid (nsmall_any l w hl)
  rw [hg, show gsV none = .tuple #[.int .u64 0, .int .i64 (-1)] from rfl] at HS
  obtain ⟨X, hX⟩ : ∃ X, bs l = X := ⟨_, rfl⟩
  rw [hX] at HS c0
  have HF := Lib.hid (show CurAt (w.setCell ⟨g, 1, none⟩ (.bool true)) g l true ∧ Below B w (w.setCell ⟨g, 1, none⟩ (.bool true)) from ⟨h.setB true, (Below.refl B w).setCell hB _⟩)
  clear h hg hX hl
  go_enter Try.func28, Try.ntmps28
  go_wp2_with fail
  refine HS.out.mono ?_
  rintro e w' ⟨rfl, rfl⟩
  go_wp2
  go_ret
  exact ⟨rfl, HF.out⟩
set_option maxHeartbeats 1000000 in
theorem take64_some (B g : Nat) (l : List UInt8) (n k : Nat) (w : World) (h : CurAt w g l false) (hB : B ≤ g) (hl : l.length ≤ 2199023255552) (hg : gs 0 0 l = some (n, k)) :
    Calls Try.prog 28 #[.pointer (some ⟨g, 0, none⟩), .func (Fn.func 29) #[] #[]] w fun e w' => e = .returned (.int .u64 (n : Int)) ∧ CurAt w' g (l.drop k) false ∧ Below B w w' := by
  have c0 := h.c0
  have c1 := h.c1
  have f0 : w.frozen? ⟨g, 0, none⟩ = false := frozen_of_row w g 0 _ _ h
  have HS := Lib.hid (nsmall_any l w hl)
  rw [hg, show gsV (some (n, k)) = .tuple #[.int .u64 (n : Int), .int .i64 (k : Int)] from rfl] at HS
  obtain ⟨h1, h2, h3⟩ := gs_is hg
  have hkl : k ≤ l.length := by
    have := congrArg List.length h3
    rw [List.length_append, ← h2] at this; omega
  have hz := bs_size l
  have hsl := slice_from (P := Try.prog) Try.underlying9 (bs l) (k : Int) k rfl (by omega)
  rw [bs_extract, hz, List.take_of_length_le (by rw [List.length_drop]; omega)] at hsl
  have hk0 : (0 : Int) ≤ (k : Int) := by omega
  have hk1 : ¬ (k : Int) < 0 := by omega
  have HF := Lib.hid (show CurAt (w.setCell ⟨g, 0, none⟩ (.string (bs (l.drop k)))) g (l.drop k) false ∧ Below B w (w.setCell ⟨g, 0, none⟩ (.string (bs (l.drop k)))) from ⟨h.setS _, (Below.refl B w).setCell hB _⟩)
  obtain ⟨Y, hY⟩ : ∃ Y, bs (l.drop k) = Y := ⟨_, rfl⟩
  obtain ⟨X, hX⟩ : ∃ X, bs l = X := ⟨_, rfl⟩
  rw [hX] at HS c0 hz hsl
  rw [hY] at hsl HF
  clear h hg hX hY h1 h2 h3
  go_enter Try.func28, Try.ntmps28
  go_wp2_with fail
  refine HS.out.mono ?_
  rintro e w' ⟨rfl, rfl⟩
  go_wp2
  go_ret
  exact ⟨rfl, HF.out⟩
set_option maxHeartbeats 400000 in
/-- A number is taken. -/
theorem csmall_none (B g : Nat) (l : List UInt8) (w : World) (h : CurAt w g l false) (hB : B ≤ g) (hl : l.length ≤ 2199023255552) (hg : gs 0 0 l = none) :
    Calls Try.prog 21 #[.pointer (some ⟨g, 0, none⟩)] w fun e w' => e = .returned (.int .u64 0) ∧ CurAt w' g l true ∧ Below B w w' := by
  have HT := Lib.hid (take64_none B g l w h hB hl hg)
  clear h hg hl
  go_enter Try.func21, Try.ntmps21
  go_wp2_with fail
  refine HT.out.mono ?_
  rintro e w' ⟨rfl, h1, h2⟩
  go_wp2
  go_ret
  exact ⟨rfl, h1, h2⟩
set_option maxHeartbeats 400000 in
theorem csmall_some (B g : Nat) (l : List UInt8) (n k : Nat) (w : World) (h : CurAt w g l false) (hB : B ≤ g) (hl : l.length ≤ 2199023255552) (hg : gs 0 0 l = some (n, k)) :
    Calls Try.prog 21 #[.pointer (some ⟨g, 0, none⟩)] w fun e w' => e = .returned (.int .u64 (n : Int)) ∧ CurAt w' g (l.drop k) false ∧ Below B w w' := by
  have HT := Lib.hid (take64_some B g l n k w h hB hl hg)
  clear h hg hl
  go_enter Try.func21, Try.ntmps21
  go_wp2_with fail
  refine HT.out.mono ?_
  rintro e w' ⟨rfl, h1, h2⟩
  go_wp2
  go_ret
  exact ⟨rfl, h1, h2⟩
set_option maxHeartbeats 1000000 in
/-- What Take gives its taker. -/
theorem tk_any (m : List UInt8) (n g2 : Nat) (w : World) (h : w.cell? ⟨g2, 0, none⟩ = some (.int .i64 (n : Int))) (hn : n ≤ m.length) (hl : m.length ≤ 2199023255552) :
    Calls Try.prog 31 #[.string (bs m), .pointer (some ⟨g2, 0, none⟩)] w fun e w' => e = .returned (.tuple #[.string (bs (m.take n)), .int .i64 (n : Int)]) ∧ Below w.heap.size w w' := by
  have hz := bs_size m
  have hsl := slice_to (P := Try.prog) Try.underlying9 (bs m) (n : Int) n rfl (by omega)
  rw [bs_extract] at hsl
  simp only [List.drop_zero, Nat.sub_zero] at hsl
  have h0 : ¬ (n : Int) < 0 := by omega
  have h1 : ¬ (m.length : Int) < (n : Int) := by omega
  obtain ⟨Y, hY⟩ : ∃ Y, bs (m.take n) = Y := ⟨_, rfl⟩
  obtain ⟨X, hX⟩ : ∃ X, bs m = X := ⟨_, rfl⟩
  rw [hX] at hz hsl ⊢
  rw [hY] at hsl ⊢
  clear hX hY
  go_enter Try.func31, Try.ntmps31
  go_wp2_with fail
  go_quiet (fail)
  go_wp2
  go_ret2
  exact ⟨rfl, ⟨rfl, rfl, rfl, Nat.le_refl _, fun _ _ => rfl⟩⟩
set_option maxHeartbeats 1000000 in
theorem takS_any (B g g2 : Nat) (l : List UInt8) (n : Nat) (w : World) (h : CurAt w g l false) (hB : B ≤ g) (hl : l.length ≤ 2199023255552) (hn : n ≤ l.length) (h2 : w.cell? ⟨g2, 0, none⟩ = some (.int .i64 (n : Int))) (hBw : B ≤ w.heap.size) :
    Calls Try.prog 30 #[.pointer (some ⟨g, 0, none⟩), .func (Fn.func 31) #[] #[.pointer (some ⟨g2, 0, none⟩)]] w fun e w' => e = .returned (.string (bs (l.take n))) ∧ CurAt w' g (l.drop n) false ∧ Below B w w' := by
  have c0 := h.c0
  have c1 := h.c1
  have HS := Lib.hid (tk_any l n g2 w h2 hn hl)
  have HC : Hid (∀ W, Below w.heap.size w W → CurAt W g l false) := Lib.hid (fun W hb => h.later hb)
  have hz := bs_size l
  have hsl := slice_from (P := Try.prog) Try.underlying9 (bs l) (n : Int) n rfl (by omega)
  rw [bs_extract, hz, List.take_of_length_le (by rw [List.length_drop]; omega)] at hsl
  have hk0 : (0 : Int) ≤ (n : Int) := by omega
  have hk1 : ¬ (n : Int) < 0 := by omega
  have HF : Hid (∀ W, Below w.heap.size w W → CurAt (W.setCell ⟨g, 0, none⟩ (.string (bs (l.drop n)))) g (l.drop n) false ∧ Below B w (W.setCell ⟨g, 0, none⟩ (.string (bs (l.drop n))))) := Lib.hid (fun W hb => ⟨(h.later hb).setS _, (hb.mono hBw).setCell hB _⟩)
  obtain ⟨Z, hZ⟩ : ∃ Z, bs (l.take n) = Z := ⟨_, rfl⟩
  obtain ⟨Y, hY⟩ : ∃ Y, bs (l.drop n) = Y := ⟨_, rfl⟩
  obtain ⟨X, hX⟩ : ∃ X, bs l = X := ⟨_, rfl⟩
  rw [hZ] at HS ⊢
  rw [hX] at HS c0 hz hsl
  have HC0 : Hid (∀ W, Below w.heap.size w W → W.cell? ⟨g, 0, none⟩ = some (.string X) ∧ W.cell? ⟨g, 1, none⟩ = some (.bool false) ∧ W.frozen? ⟨g, 0, none⟩ = false) := Lib.hid (fun W hb => ⟨by rw [← hX]; exact (HC.out W hb).c0, (HC.out W hb).c1, frozen_of_row W g 0 _ _ (HC.out W hb)⟩)
  rw [hY] at hsl HF
  clear h hX hY hZ HC h2
  go_enter Try.func30, Try.ntmps30
  go_wp2_with fail
  refine HS.out.mono ?_
  rintro e w1 ⟨rfl, hb1⟩
  obtain ⟨d0, d1, f0⟩ := HC0.out _ hb1
  have HG := Lib.hid (HF.out _ hb1)
  clear hb1 HC0 HF c0 c1
  go_wp2
  go_ret
  exact ⟨rfl, HG.out⟩
set_option maxHeartbeats 1000000 in
/-- Bytes are taken. -/
theorem ctake_any (B g : Nat) (l : List UInt8) (n : Nat) (w : World) (h : CurAt w g l false) (hB : B ≤ g) (hl : l.length ≤ 2199023255552) (hn : n ≤ l.length) :
    Calls Try.prog 23 #[.pointer (some ⟨g, 0, none⟩), .int .i64 (n : Int)] w fun e w' => e = .returned (.string (bs (l.take n))) ∧ CurAt w' g (l.drop n) false ∧ Below B w w' := by
  have hgl : g < w.heap.size := (Array.getElem?_eq_some_iff.1 h).1
  have hbA : Below w.heap.size w (w.alloc (.cells #[.int .i64 (n : Int)] 3 (0, 0))) := (Below.refl _ _).alloc (Nat.le_refl _) _
  have hnew := heap_alloc_new w (.cells #[.int .i64 (n : Int)] 3 (0, 0))
  have HT := Lib.hid (takS_any B g w.heap.size l n _ (h.later hbA) hB hl hn (by rw [cell_of_row _ _ 0 _ _ _ hnew]; rfl) (by simp; omega))
  have HB := Lib.hid (show Below B w (w.alloc (.cells #[.int .i64 (n : Int)] 3 (0, 0))) from hbA.mono (by omega))
  clear h hbA hnew
  go_enter Try.func23, Try.ntmps23
  go_wp2_with fail
  refine HT.out.mono ?_
  rintro e w' ⟨rfl, h1, h2⟩
  go_wp2
  go_ret
  exact ⟨rfl, h1, HB.out.trans h2⟩
end Go.Proofs.Ytmaehbcjcifchaa.FrW
