/-
  num.Cursor's Text: THE WALKS.
-/
import Derived.Test.YtgnifdkoaajboaaLbNum
import Derived.Test.YtgnifdkoaajboaaLbMath
namespace Go.Proofs.Ytgnifdkoaajboaa.FrW
set_option linter.unusedVariables false
open Go.RowKit FrM LbM
/-- A cursor in the block g. -/
def CurAt (W : World) (g : Nat) (l : List UInt8) (bad : Bool) : Prop := W.heap[g]? = some (.cells #[.string (bs l), .bool bad] 55 (0, 0))
theorem CurAt.c0 {W : World} {g : Nat} {l : List UInt8} {b : Bool} (h : CurAt W g l b) : W.cell? ⟨g, 0, none⟩ = some (.string (bs l)) := by rw [cell_of_row W _ _ _ _ _ h]; rfl
theorem CurAt.c1 {W : World} {g : Nat} {l : List UInt8} {b : Bool} (h : CurAt W g l b) : W.cell? ⟨g, 1, none⟩ = some (.bool b) := by rw [cell_of_row W _ _ _ _ _ h]; rfl
theorem CurAt.later {W W' : World} {g : Nat} {l : List UInt8} {b : Bool} (h : CurAt W g l b) (hb : Below W.heap.size W W') : CurAt W' g l b := (hb.block _ (Array.getElem?_eq_some_iff.1 h).1).trans h
theorem CurAt.setS {W : World} {g : Nat} {l : List UInt8} {b : Bool} (h : CurAt W g l b) (m : List UInt8) : CurAt (W.setCell ⟨g, 0, none⟩ (.string (bs m))) g m b := heap_setCell_same W g 0 _ _ _ h
theorem CurAt.setB {W : World} {g : Nat} {l : List UInt8} {b : Bool} (h : CurAt W g l b) (c : Bool) : CurAt (W.setCell ⟨g, 1, none⟩ (.bool c)) g l c := heap_setCell_same W g 1 _ _ _ h
/-- What a text's taker tells. -/
def tkV (l : List UInt8) : Value := match getT l with
  | none => .tuple #[.string ⟨#[]⟩, .int .i64 (-1)]
  | some (b, r) => .tuple #[.string (bs b), .int .i64 ((l.length - r.length : Nat) : Int)]
set_option maxHeartbeats 1000000 in
theorem tkT_none (l : List UInt8) (g2 : Nat) (w : World) (h : w.cell? ⟨g2, 0, none⟩ = some (.int .i64 48)) (hl : l.length ≤ 2199023255552) (hg : getT l = none) :
    Calls Try.prog 51 #[.string (bs l), .pointer (some ⟨g2, 0, none⟩)] w fun e w' => e = .returned (.tuple #[.string ⟨#[]⟩, .int .i64 (-1)]) ∧ Below w.heap.size w w' := by
  have hz := bs_size l
  have HS := Lib.hid (nsmall_any l w hl)
  unfold getT at hg
  cases hgs : gs 0 0 l with
  | none =>
    rw [hgs, show gsV none = .tuple #[.int .u64 0, .int .i64 (-1)] from rfl] at HS
    obtain ⟨X, hX⟩ : ∃ X, bs l = X := ⟨_, rfl⟩
    rw [hX] at hz HS ⊢
    clear hg hgs hX
    go_enter Try.func51, Try.ntmps51
    go_wp2_with fail
    refine HS.out.mono ?_
    rintro e w' ⟨rfl, rfl⟩
    go_wp2
    go_ret2
    exact ⟨rfl, Below.refl _ _⟩
  | some p =>
    obtain ⟨n, k⟩ := p
    rw [hgs] at hg
    simp only [] at hg
    rw [hgs, show gsV (some (n, k)) = .tuple #[.int .u64 (n : Int), .int .i64 (k : Int)] from rfl] at HS
    obtain ⟨h1, h2, h3⟩ := gs_is hgs
    have hkl : k ≤ l.length := by
      have := congrArg List.length h3
      rw [List.length_append, ← h2] at this; omega
    have hc : l.length - k < n ∨ 48 < n := by
      by_cases hcc : l.length - k < n ∨ 48 < n
      · exact hcc
      · rw [if_neg hcc] at hg; cases hg
    obtain ⟨q, hq⟩ : ∃ q, l.length = q := ⟨_, rfl⟩
    rw [hq] at hz hkl hc hl
    obtain ⟨X, hX⟩ : ∃ X, bs l = X := ⟨_, rfl⟩
    rw [hX] at hz HS ⊢
    clear hg hgs hX h2 h3 hq
    have k0 : ¬ (k : Int) < 0 := by omega
    rcases Nat.lt_or_ge 48 (q - k) with hm | hm
    · have m1 : 48 < (q : Int) - (k : Int) := by omega
      have m2 : (n : Int) > 48 := by omega
      go_enter Try.func51, Try.ntmps51
      go_wp2_with fail
      refine HS.out.mono ?_
      rintro e w' ⟨rfl, rfl⟩
      go_wp2
      go_ret2
      exact ⟨rfl, Below.refl _ _⟩
    · have m1 : ¬ 48 < (q : Int) - (k : Int) := by omega
      have m2 : (n : Int) > (q : Int) - (k : Int) := by omega
      go_enter Try.func51, Try.ntmps51
      go_wp2_with fail
      refine HS.out.mono ?_
      rintro e w' ⟨rfl, rfl⟩
      go_wp2
      go_ret2
      exact ⟨rfl, Below.refl _ _⟩
set_option maxHeartbeats 1000000 in
theorem tkT_some (l b r : List UInt8) (g2 : Nat) (w : World) (h : w.cell? ⟨g2, 0, none⟩ = some (.int .i64 48)) (hl : l.length ≤ 2199023255552) (hg : getT l = some (b, r)) :
    ∃ p, p ≤ l.length ∧ l.drop p = r ∧ Calls Try.prog 51 #[.string (bs l), .pointer (some ⟨g2, 0, none⟩)] w fun e w' => e = .returned (.tuple #[.string (bs b), .int .i64 (p : Int)]) ∧ Below w.heap.size w w' := by
  have hz := bs_size l
  have HS := Lib.hid (nsmall_any l w hl)
  unfold getT at hg
  cases hgs : gs 0 0 l with
  | none => rw [hgs] at hg; cases hg
  | some p =>
    obtain ⟨n, k⟩ := p
    rw [hgs] at hg
    simp only [] at hg
    rw [hgs, show gsV (some (n, k)) = .tuple #[.int .u64 (n : Int), .int .i64 (k : Int)] from rfl] at HS
    obtain ⟨h1, h2, h3⟩ := gs_is hgs
    have hkl : k ≤ l.length := by
      have := congrArg List.length h3
      rw [List.length_append, ← h2] at this; omega
    split at hg
    · cases hg
    rename_i hc
    injection hg with hg
    injection hg with hb hr
    have hc1 : k + n ≤ l.length := by omega
    have hc2 : n ≤ 48 := by omega
    refine ⟨k + n, hc1, hr, ?_⟩
    have hsl := slice_mid (P := Try.prog) Try.underlying9 (bs l) (k : Int) ((k : Int) + (n : Int)) k (k + n) rfl (by omega) (by omega) (by omega)
    rw [bs_extract, show k + n - k = n by omega, hb] at hsl
    obtain ⟨q, hq⟩ : ∃ q, l.length = q := ⟨_, rfl⟩
    rw [hq] at hz hkl hc1 hl
    obtain ⟨X, hX⟩ : ∃ X, bs l = X := ⟨_, rfl⟩
    obtain ⟨Y, hY⟩ : ∃ Y, bs b = Y := ⟨_, rfl⟩
    rw [hX] at hz HS hsl ⊢
    rw [hY] at hsl ⊢
    clear hgs hX hY h2 h3 hq hb hr hc
    have k0 : ¬ (k : Int) < 0 := by omega
    rcases Nat.lt_or_ge 48 (q - k) with hm | hm
    · have m1 : 48 < (q : Int) - (k : Int) := by omega
      have m2 : ¬ (n : Int) > 48 := by omega
      go_enter Try.func51, Try.ntmps51
      go_wp2_with fail
      refine HS.out.mono ?_
      rintro e w' ⟨rfl, rfl⟩
      go_wp2
      go_ret2
      exact ⟨rfl, Below.refl _ _⟩
    · have m1 : ¬ 48 < (q : Int) - (k : Int) := by omega
      have m2 : ¬ (n : Int) > (q : Int) - (k : Int) := by omega
      go_enter Try.func51, Try.ntmps51
      go_wp2_with fail
      refine HS.out.mono ?_
      rintro e w' ⟨rfl, rfl⟩
      go_wp2
      go_ret2
      exact ⟨rfl, Below.refl _ _⟩
end Go.Proofs.Ytgnifdkoaajboaa.FrW
