/-
  VALUES AS BITS: THE SMALL FUNCTIONS, WALKED.
-/
import Derived.Test.YtboomamnenonoaaDoorVaMath2
import Derived.Test.YtboomamnenonoaaDoorStMem
import Derived.Test.YtboomamnenonoaaDoorBitsShelf
namespace Go.Proofs.YtboomamnenonoaaDoor.VaW
set_option linter.unusedVariables false
open Go.RowKit Go.Shelf BitsM BitsW VaM
def VaObj (s : Sv) : Obj := .cells #[.int .i64 (s.1 : Int), .int .u64 (s.2.1 : Int), .int .i64 (s.2.2.1 : Int), .int .i64 (s.2.2.2 : Int)] 31 (0, 0)
def VaAt (W : World) (g : Nat) (s : Sv) : Prop := W.heap[g]? = some (VaObj s)
theorem VaAt.c0 {W : World} {g : Nat} {s : Sv} (h : VaAt W g s) : W.cell? ⟨g, 0, none⟩ = some (.int .i64 (s.1 : Int)) := by rw [cell_of_row W _ _ _ _ _ h]; rfl
theorem VaAt.c1 {W : World} {g : Nat} {s : Sv} (h : VaAt W g s) : W.cell? ⟨g, 1, none⟩ = some (.int .u64 (s.2.1 : Int)) := by rw [cell_of_row W _ _ _ _ _ h]; rfl
theorem VaAt.c2 {W : World} {g : Nat} {s : Sv} (h : VaAt W g s) : W.cell? ⟨g, 2, none⟩ = some (.int .i64 (s.2.2.1 : Int)) := by rw [cell_of_row W _ _ _ _ _ h]; rfl
theorem VaAt.c3 {W : World} {g : Nat} {s : Sv} (h : VaAt W g s) : W.cell? ⟨g, 3, none⟩ = some (.int .i64 (s.2.2.2 : Int)) := by rw [cell_of_row W _ _ _ _ _ h]; rfl
theorem VaAt.later {W W' : World} {g : Nat} {s : Sv} (h : VaAt W g s) (hb : Below W.heap.size W W') : VaAt W' g s := (hb.block _ (Array.getElem?_eq_some_iff.1 h).1).trans h
theorem _root_.Go.Proofs.YtboomamnenonoaaDoor.Tab.later {W W' : World} (h : Tab W) (hb : Below W.heap.size W W') : Tab W' := by
  intro j hj
  have h1 := h j hj
  exact (World.cell?_of_block (hb.block _ (World.block_lt_of_cell? W _ h1))).trans h1
theorem info_va : (Tryd.prog.info? 31).map (·.size) = some 4 := by kernel_rfl
def validB (N L T : Int) : Bool := decide (0 ≤ N ∧ 0 ≤ L ∧ 0 ≤ T ∧ ((L = 64 ∧ T = 0) ∨ (L < 64 ∧ T < 64 - L)))
set_option maxHeartbeats 1000000 in
theorem valid_any (N V L T : Int) (w : World) (hT : T ≤ 9223372036854775807) :
    Calls Tryd.prog 15 #[.agg #[.int .i64 N, .int .u64 V, .int .i64 L, .int .i64 T]] w fun e w' => e = .returned (.bool (validB N L T)) ∧ Below w.heap.size w w' := by
  have hb := (Below.refl w.heap.size w).alloc (Nat.le_refl _) (.cells #[.int .i64 N, .int .u64 V, .int .i64 L, .int .i64 T] 31 (0, 0))
  have HB := Lib.hid hb
  clear hb
  by_cases h1 : N < 0
  · have e : validB N L T = false := decide_eq_false (by omega)
    rw [e]; clear e
    go_enter Tryd.func15, Tryd.ntmps15
    go_wp2
    go_ret
    exact ⟨rfl, HB.out⟩
  by_cases h2 : L < 0
  · have e : validB N L T = false := decide_eq_false (by omega)
    rw [e]; clear e
    go_enter Tryd.func15, Tryd.ntmps15
    go_wp2
    go_ret
    exact ⟨rfl, HB.out⟩
  by_cases h3 : T < 0
  · have e : validB N L T = false := decide_eq_false (by omega)
    rw [e]; clear e
    go_enter Tryd.func15, Tryd.ntmps15
    go_wp2
    go_ret
    exact ⟨rfl, HB.out⟩
  by_cases h4 : L = 64
  · subst h4
    have e : validB N 64 T = (T == 0) := by
      by_cases h0 : T = 0
      · subst h0; exact decide_eq_true (by omega)
      · rw [show (T == 0) = false by simpa using h0]; exact decide_eq_false (by omega)
    rw [e]; clear e
    go_enter Tryd.func15, Tryd.ntmps15
    go_wp2
    all_goals (go_ret; exact ⟨rfl, HB.out⟩)
  · have h4' : (L == 64) = false := by simpa using h4
    by_cases h5 : L < 64
    · have e : validB N L T = decide (T < 64 - L) := by
        by_cases h0 : T < 64 - L
        · rw [decide_eq_true h0]; exact decide_eq_true (by omega)
        · rw [decide_eq_false h0]; exact decide_eq_false (by omega)
      rw [e]; clear e
      go_enter Tryd.func15, Tryd.ntmps15
      go_wp2
      all_goals (go_ret; exact ⟨rfl, HB.out⟩)
    · have e : validB N L T = false := decide_eq_false (by omega)
      rw [e]; clear e
      go_enter Tryd.func15, Tryd.ntmps15
      go_wp2
      go_ret
      exact ⟨rfl, HB.out⟩
theorem validB_ok {s : Sv} (h : okV s) : validB s.1 s.2.2.1 s.2.2.2 = true := decide_eq_true (by have := h.2; unfold okW at this; omega)
theorem valid_ok (s : Sv) (w : World) (h : okV s) :
    Calls Tryd.prog 15 #[.agg #[.int .i64 (s.1 : Int), .int .u64 (s.2.1 : Int), .int .i64 (s.2.2.1 : Int), .int .i64 (s.2.2.2 : Int)]] w fun e w' => e = .returned (.bool true) ∧ Below w.heap.size w w' := by
  rw [← validB_ok h]
  exact valid_any _ _ _ _ w (by have := okW_size h.2; omega)
/-- How a value is put, and the window then. -/
def wayN (s : Sv) (x : Nat) : Nat := if s.1 = 0 then 0 else if x = 0 then 1 else if inB s x = true then 2 else 3
def wayL (s : Sv) (x : Nat) : Nat := if wayN s x = 3 then ld x else s.2.2.1
def wayT (s : Sv) (x : Nat) : Nat := if wayN s x = 3 then tr x else s.2.2.2
theorem ld_cast (x : Nat) (hx : x < 18446744073709551616) : (64 - (Lib.bitLen x : Int)) = ((ld x : Nat) : Int) := by
  have : Lib.bitLen x ≤ 64 := Lib.bitLen_le x 64 (by omega) hx
  unfold ld; omega
theorem tr_le (x : Nat) (hx : x < 18446744073709551616) : tr x ≤ 64 := by
  by_cases h0 : x = 0
  · subst h0; decide
  · have := win_new x hx h0; omega
set_option maxHeartbeats 2000000 in
theorem of_any (s : Sv) (x : Nat) (w : World) (hs : okV s) (hx : x < 18446744073709551616) (hT : Tab w) :
    Calls Tryd.prog 30 #[.agg #[.int .i64 (s.1 : Int), .int .u64 (s.2.1 : Int), .int .i64 (s.2.2.1 : Int), .int .i64 (s.2.2.2 : Int)], .int .u64 (x : Int)] w fun e w' => e = .returned (.tuple #[.int .i64 (wayN s x : Nat), .int .i64 (wayL s x : Nat), .int .i64 (wayT s x : Nat)]) ∧ Below w.heap.size w w' := by
  have hw := okW_size hs.2
  have htl := tr_le x hx
  have hll : ld x ≤ 64 := by unfold ld; omega
  obtain ⟨N, V, L, T⟩ := s
  simp only [] at hw
  have HB := Lib.hid (fun (o : Obj) (n : Nat) => (show Below w.heap.size w ((w.alloc o).drewN n) from ((Below.refl _ _).alloc (Nat.le_refl _) o).trans ⟨rfl, rfl, rfl, Nat.le_refl _, fun _ _ => rfl⟩))
  have HL : Hid (∀ W, Calls Tryd.prog 41 #[.int .u64 (x : Int)] W fun e w' => e = .returned (.int .i64 ((ld x : Nat) : Int)) ∧ W = w') := Lib.hid (fun W => by rw [← ld_cast x hx]; exact lead_any x W hx)
  have HTR : Hid (∀ W, Below w.heap.size w W → Calls Tryd.prog 42 #[.int .u64 (x : Int)] W fun e w' => e = .returned (.int .i64 ((tr x : Nat) : Int)) ∧ W = w') := Lib.hid (fun W h => trail_any x W hx (hT.later h))
  have hin := inB_iff (N, V, L, T) x
  have hN3 : wayN (N, V, L, T) x = if N = 0 then 0 else if x = 0 then 1 else if inB (N, V, L, T) x = true then 2 else 3 := rfl
  have hL3 : wayL (N, V, L, T) x = if wayN (N, V, L, T) x = 3 then ld x else L := rfl
  have hT3 : wayT (N, V, L, T) x = if wayN (N, V, L, T) x = 3 then tr x else T := rfl
  generalize wayN (N, V, L, T) x = wn at *
  generalize wayL (N, V, L, T) x = wl at *
  generalize wayT (N, V, L, T) x = wt at *
  generalize ld x = a at *
  generalize tr x = c at *
  generalize inB (N, V, L, T) x = ib at *
  simp only [] at hin
  have HIN := Lib.hid hin
  have H3 := Lib.hid (And.intro hN3 (And.intro hL3 hT3))
  clear hT hs hin hN3 hL3 hT3
  go_enter Tryd.func30, Tryd.ntmps30
  go_wp2_with fail
  refine (HL.out _).mono ?_
  rintro e w' ⟨rfl, rfl⟩
  go_wp2_with fail
  refine (HTR.out _ (HB.out _ 0)).mono ?_
  rintro e w' ⟨rfl, rfl⟩
  by_cases h0 : N = 0
  · obtain ⟨rfl, rfl, rfl⟩ : wn = 0 ∧ wl = L ∧ wt = T := by
      obtain ⟨e1, e2, e3⟩ := H3.out
      rw [if_pos h0] at e1
      subst e1
      rw [if_neg (by omega)] at e2 e3
      exact ⟨rfl, e2, e3⟩
    have hb0 : ((N : Int) == 0) = true := by simp [h0]
    clear h0
    go_wp2_with fail
    go_quiet (fail)
    go_wp2
    go_ret3
    exact ⟨rfl, (HB.out _ 0).trans ⟨rfl, rfl, rfl, Nat.le_refl _, fun _ _ => rfl⟩⟩
  have hb0 : ((N : Int) == 0) = false := by simp; omega
  by_cases hx0 : x = 0
  · obtain ⟨rfl, rfl, rfl⟩ : wn = 1 ∧ wl = L ∧ wt = T := by
      obtain ⟨e1, e2, e3⟩ := H3.out
      rw [if_neg h0, if_pos hx0] at e1
      subst e1
      rw [if_neg (by omega)] at e2 e3
      exact ⟨rfl, e2, e3⟩
    have hbx : ((x : Int) == 0) = true := by simp [hx0]
    clear h0 hx0
    go_wp2_with fail
    go_quiet (fail)
    go_wp2
    go_ret3
    exact ⟨rfl, (HB.out _ 0).trans ⟨rfl, rfl, rfl, Nat.le_refl _, fun _ _ => rfl⟩⟩
  have hbx : ((x : Int) == 0) = false := by simp; omega
  by_cases hi : ib = true
  · obtain ⟨i1, i2, i3⟩ := HIN.out.1 hi
    obtain ⟨rfl, rfl, rfl⟩ : wn = 2 ∧ wl = L ∧ wt = T := by
      obtain ⟨e1, e2, e3⟩ := H3.out
      rw [if_neg h0, if_neg hx0, if_pos hi] at e1
      subst e1
      rw [if_neg (by omega)] at e2 e3
      exact ⟨rfl, e2, e3⟩
    clear h0 hx0 hi
    go_wp2_with fail
    go_quiet (fail)
    go_wp2
    go_ret3
    exact ⟨rfl, (HB.out _ 0).trans ⟨rfl, rfl, rfl, Nat.le_refl _, fun _ _ => rfl⟩⟩
  · obtain ⟨rfl, rfl, rfl⟩ : wn = 3 ∧ wl = a ∧ wt = c := by
      obtain ⟨e1, e2, e3⟩ := H3.out
      rw [if_neg h0, if_neg hx0, if_neg hi] at e1
      subst e1
      rw [if_pos rfl] at e2 e3
      exact ⟨rfl, e2, e3⟩
    have hno : ¬ (L < 64 ∧ L ≤ wl ∧ T ≤ wt) := fun h => hi (HIN.out.2 h)
    clear h0 hx0 hi
    by_cases j1 : L < 64
    · by_cases j2 : L ≤ wl
      · have j3 : ¬ T ≤ wt := fun h => hno ⟨j1, j2, h⟩
        clear hno
        go_wp2
        go_ret3
        exact ⟨rfl, HB.out _ 0⟩
      · clear hno
        go_wp2
        go_ret3
        exact ⟨rfl, HB.out _ 0⟩
    · clear hno
      go_wp2
      go_ret3
      exact ⟨rfl, HB.out _ 0⟩
end Go.Proofs.YtboomamnenonoaaDoor.VaW
