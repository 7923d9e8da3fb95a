/-
  num.take[string] with a text's taker; num.Cursor.Text: THE WALKS.
-/
import Derived.Test.YtgnifdkoaajboaaLbCur
namespace Go.Proofs.Ytgnifdkoaajboaa.FrW
set_option linter.unusedVariables false
open Go.RowKit FrM LbM
/-- From w to w' nothing turned but the block g. -/
theorem grown_set {w W : World} (g i : Nat) (v : Value) (hb : Below w.heap.size w W) : w.grownBy (W.setCell ⟨g, i, none⟩ v) (some g) :=
  ⟨hb.os, hb.tape, hb.output, by simpa using hb.size, fun k hk hne => (heap_setCell_other _ _ _ _ (fun e => hne (by rw [e]))).trans (hb.block k hk)⟩
theorem grown_trans {w w1 w2 : World} {r : Option Nat} (h : w.grownBy w1 r) (k : w1.grownBy w2 r) : w.grownBy w2 r :=
  ⟨k.os.trans h.os, k.tape.trans h.tape, k.output.trans h.output, Nat.le_trans h.size k.size, fun i hi hne => (k.block i (Nat.lt_of_lt_of_le hi h.size) hne).trans (h.block i hi hne)⟩
theorem grown_below {w w' : World} {g B : Nat} (h : w.grownBy w' (some g)) (hB : B ≤ g) (hw : B ≤ w.heap.size) : Below B w w' :=
  ⟨h.os, h.tape, h.output, h.size, fun k hk => h.block k (by omega) (fun e => by injection e with e; omega)⟩
theorem below_grown {w w' : World} (h : Below w.heap.size w w') (r : Option Nat) : w.grownBy w' r := ⟨h.os, h.tape, h.output, h.size, fun k hk _ => h.block k hk⟩
set_option maxHeartbeats 1000000 in
theorem takT_bad (g g2 : Nat) (l : List UInt8) (w : World) (h : CurAt w g l true) :
    Calls Try.prog 50 #[.pointer (some ⟨g, 0, none⟩), .func (Fn.func 51) #[] #[.pointer (some ⟨g2, 0, none⟩)]] w fun e w' => e = .returned (.string ⟨#[]⟩) ∧ w' = w := by
  have c0 := h.c0
  have c1 := h.c1
  clear h
  go_enter Try.func50, Try.ntmps50
  go_wp2
  go_ret
  exact ⟨rfl, rfl⟩
set_option maxHeartbeats 1000000 in
theorem takT_none (g g2 : Nat) (l : List UInt8) (w : World) (h : CurAt w g l false) (hl : l.length ≤ 2199023255552) (hg : getT l = none) (h2 : w.cell? ⟨g2, 0, none⟩ = some (.int .i64 48)) :
    Calls Try.prog 50 #[.pointer (some ⟨g, 0, none⟩), .func (Fn.func 51) #[] #[.pointer (some ⟨g2, 0, none⟩)]] w fun e w' => e = .returned (.string ⟨#[]⟩) ∧ CurAt w' g l true ∧ w.grownBy w' (some g) := by
  have c0 := h.c0
  have c1 := h.c1
  have HS := Lib.hid (tkT_none l g2 w h2 hl hg)
  have HC0 : Hid (∀ W, Below w.heap.size w W → W.cell? ⟨g, 1, none⟩ = some (.bool false) ∧ W.frozen? ⟨g, 1, none⟩ = false) := Lib.hid (fun W hb => ⟨(h.later hb).c1, frozen_of_row W g 1 _ _ (h.later hb)⟩)
  have HF : Hid (∀ W, Below w.heap.size w W → CurAt (W.setCell ⟨g, 1, none⟩ (.bool true)) g l true ∧ w.grownBy (W.setCell ⟨g, 1, none⟩ (.bool true)) (some g)) := Lib.hid (fun W hb => ⟨(h.later hb).setB _, grown_set g _ _ hb⟩)
  obtain ⟨X, hX⟩ : ∃ X, bs l = X := ⟨_, rfl⟩
  rw [hX] at HS c0
  clear h hX h2 hg hl
  go_enter Try.func50, Try.ntmps50
  go_wp2_with fail
  refine HS.out.mono ?_
  rintro e w1 ⟨rfl, hb1⟩
  obtain ⟨d1, f0⟩ := HC0.out _ hb1
  have HG := Lib.hid (HF.out _ hb1)
  clear hb1 HC0 HF c0 c1
  go_wp2
  go_ret
  exact ⟨rfl, HG.out⟩
set_option maxHeartbeats 1000000 in
theorem takT_some (g g2 : Nat) (l b r : List UInt8) (w : World) (h : CurAt w g l false) (hl : l.length ≤ 2199023255552) (hg : getT l = some (b, r)) (h2 : w.cell? ⟨g2, 0, none⟩ = some (.int .i64 48)) :
    Calls Try.prog 50 #[.pointer (some ⟨g, 0, none⟩), .func (Fn.func 51) #[] #[.pointer (some ⟨g2, 0, none⟩)]] w fun e w' => e = .returned (.string (bs b)) ∧ CurAt w' g r false ∧ w.grownBy w' (some g) := by
  have c0 := h.c0
  have c1 := h.c1
  obtain ⟨p, hp, hr, hS⟩ := tkT_some l b r g2 w h2 hl hg
  have HS := Lib.hid hS
  have HC : Hid (∀ W, Below w.heap.size w W → CurAt W g l false) := Lib.hid (fun W hb => h.later hb)
  have hz := bs_size l
  have hsl := slice_from (P := Try.prog) Try.underlying9 (bs l) (p : Int) p rfl (by omega)
  rw [bs_extract, hz, List.take_of_length_le (by rw [List.length_drop]; omega), hr] at hsl
  have hk0 : (0 : Int) ≤ (p : Int) := by omega
  have hk1 : ¬ (p : Int) < 0 := by omega
  have HF : Hid (∀ W, Below w.heap.size w W → CurAt (W.setCell ⟨g, 0, none⟩ (.string (bs r))) g r false ∧ w.grownBy (W.setCell ⟨g, 0, none⟩ (.string (bs r))) (some g)) := Lib.hid (fun W hb => ⟨(h.later hb).setS _, grown_set g _ _ hb⟩)
  obtain ⟨Z, hZ⟩ : ∃ Z, bs b = Z := ⟨_, rfl⟩
  obtain ⟨Y, hY⟩ : ∃ Y, bs r = Y := ⟨_, rfl⟩
  obtain ⟨X, hX⟩ : ∃ X, bs l = X := ⟨_, rfl⟩
  rw [hZ] at HS ⊢
  rw [hX] at HS c0 hz hsl
  have HC0 : Hid (∀ W, Below w.heap.size w W → W.cell? ⟨g, 0, none⟩ = some (.string X) ∧ W.cell? ⟨g, 1, none⟩ = some (.bool false) ∧ W.frozen? ⟨g, 0, none⟩ = false) := Lib.hid (fun W hb => ⟨by rw [← hX]; exact (HC.out W hb).c0, (HC.out W hb).c1, frozen_of_row W g 0 _ _ (HC.out W hb)⟩)
  rw [hY] at hsl HF
  clear h hX hY hZ HC h2 hr hg hS
  go_enter Try.func50, Try.ntmps50
  go_wp2_with fail
  refine HS.out.mono ?_
  rintro e w1 ⟨rfl, hb1⟩
  obtain ⟨d0, d1, f0⟩ := HC0.out _ hb1
  have HG := Lib.hid (HF.out _ hb1)
  clear hb1 HC0 HF c0 c1
  go_wp2
  go_ret
  exact ⟨rfl, HG.out⟩
/-- What a cursor's Text takes: the text, what is left, is it bad. -/
def tkB (l : List UInt8) (bad : Bool) : List UInt8 × List UInt8 × Bool := if bad then ([], l, true) else match getT l with
  | none => ([], l, true)
  | some (b, r) => (b, r, false)
set_option maxHeartbeats 1000000 in
/-- A text is taken. -/
theorem ctext_any (g : Nat) (l : List UInt8) (bad : Bool) (w : World) (h : CurAt w g l bad) (hl : l.length ≤ 2199023255552) :
    Calls Try.prog 41 #[.pointer (some ⟨g, 0, none⟩), .int .i64 48] w fun e w' => e = .returned (.string (bs (tkB l bad).1)) ∧ CurAt w' g (tkB l bad).2.1 (tkB l bad).2.2 ∧ w.grownBy w' (some g) := by
  have hgl : g < w.heap.size := (Array.getElem?_eq_some_iff.1 h).1
  have hbA : Below w.heap.size w (w.alloc (.cells #[.int .i64 48] 3 (0, 0))) := (Below.refl _ _).alloc (Nat.le_refl _) _
  have hnew := heap_alloc_new w (.cells #[.int .i64 48] 3 (0, 0))
  have HB := Lib.hid (show w.grownBy (w.alloc (.cells #[.int .i64 48] 3 (0, 0))) (some g) from World.grownBy_alloc w _ _)
  have HT : Hid (Calls Try.prog 50 #[.pointer (some ⟨g, 0, none⟩), .func (Fn.func 51) #[] #[.pointer (some ⟨w.heap.size, 0, none⟩)]] (w.alloc (.cells #[.int .i64 48] 3 (0, 0))) fun e w' => e = .returned (.string (bs (tkB l bad).1)) ∧ CurAt w' g (tkB l bad).2.1 (tkB l bad).2.2 ∧ (w.alloc (.cells #[.int .i64 48] 3 (0, 0))).grownBy w' (some g)) := by
    refine Lib.hid ?_
    cases bad with
    | true =>
      refine (takT_bad g w.heap.size l _ (h.later hbA)).mono ?_
      rintro e w' ⟨rfl, rfl⟩
      exact ⟨rfl, h.later hbA, below_grown (Below.refl _ _) _⟩
    | false =>
      cases hg : getT l with
      | none =>
        have e1 : tkB l false = ([], l, true) := by unfold tkB; rw [hg]; rfl
        rw [e1]
        exact takT_none g w.heap.size l _ (h.later hbA) hl hg (by rw [cell_of_row _ _ 0 _ _ _ hnew]; rfl)
      | some p =>
        obtain ⟨b, r⟩ := p
        have e1 : tkB l false = (b, r, false) := by unfold tkB; rw [hg]; rfl
        rw [e1]
        exact takT_some g w.heap.size l b r _ (h.later hbA) hl hg (by rw [cell_of_row _ _ 0 _ _ _ hnew]; rfl)
  clear h hbA hnew
  go_enter Try.func41, Try.ntmps41
  go_wp2_with fail
  refine HT.out.mono ?_
  rintro e w' ⟨rfl, h1, h2⟩
  go_wp2
  go_ret
  exact ⟨rfl, h1, grown_trans HB.out h2⟩
end Go.Proofs.Ytgnifdkoaajboaa.FrW
