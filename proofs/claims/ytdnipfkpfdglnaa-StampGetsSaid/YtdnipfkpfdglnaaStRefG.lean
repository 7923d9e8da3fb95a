/-
  alluviumref04.Get: THE WALK.
-/
import Derived.Test.YtdnipfkpfdglnaaStRef
import Derived.RegionTactic
import Derived.ChangeAlike
import Derived.BigRegion
namespace Go.Proofs.Ytdnipfkpfdglnaa.StW
set_option linter.unusedVariables false
open Go.RowKit Go.Shelf BitsM BitsW StM
/-- What the document's Get tells. -/
def refG (b : List Bool) (s : St) : St × List Bool × Bool := match getS b s with
  | none => (s, b, false)
  | some (t, k) => (aftS s t, b.drop k, true)
theorem get_none_of {b : List Bool} {s : St} (h0 : ¬ s.1 = 0) (h : candC b = none) : refG b s = (s, b, false) := by
  unfold refG getS; rw [if_neg h0, h]; rfl
theorem get_no_put {b : List Bool} {s : St} {c : Int} (hs : okSt s) (h0 : ¬ s.1 = 0) (h : candC b = some c)
    (hp : ¬ ((putS s (wrap64 (wrap64 (s.2.1 + s.2.2) + c))).length ≤ b.length ∧ b.take (putS s (wrap64 (wrap64 (s.2.1 + s.2.2) + c))).length = putS s (wrap64 (wrap64 (s.2.1 + s.2.2) + c)))) : refG b s = (s, b, false) := by
  have hn : getS b s = none := by
    cases hg : getS b s with
    | none => rfl
    | some x =>
      obtain ⟨t, k⟩ := x
      obtain ⟨h1, h2, h3, h4⟩ := put_get b s t k hs hg
      unfold getS at hg
      rw [if_neg h0, h, Option.bind_some] at hg
      split at hg
      · injection hg with hg
        injection hg with e1 e2
        subst e1
        subst h3
        exact absurd ⟨h4, h2⟩ hp
      · cases hg
  unfold refG; rw [hn]
theorem get_yes_put {b : List Bool} {s : St} {t : Int} (hs : okSt s) (ht : okI t) (h1 : (putS s t).length ≤ b.length) (h2 : b.take (putS s t).length = putS s t) : refG b s = (aftS s t, b.drop (putS s t).length, true) := by
  have e : b = putS s t ++ b.drop (putS s t).length := by
    conv => lhs; rw [← List.take_append_drop (putS s t).length b, h2]
  have hg : getS b s = some (t, (putS s t).length) := by
    rw [e]; exact get_put s t hs ht _
  unfold refG; rw [hg]
theorem set3_row {W : World} {g : Nat} {x y z : Value} {t : TypeId} (a b c : Value) (h : W.heap[g]? = some (.cells #[x, y, z] t (0, 0))) : (((W.setCell ⟨g, 0, none⟩ a).setCell ⟨g, 1, none⟩ b).setCell ⟨g, 2, none⟩ c).heap[g]? = some (.cells #[a, b, c] t (0, 0)) := by
  have h1 : (W.setCell ⟨g, 0, none⟩ a).heap[g]? = some (.cells #[a, y, z] t (0, 0)) := heap_setCell_same W g 0 _ _ _ h
  have h2 : ((W.setCell ⟨g, 0, none⟩ a).setCell ⟨g, 1, none⟩ b).heap[g]? = some (.cells #[a, b, z] t (0, 0)) := heap_setCell_same _ g 1 _ _ _ h1
  exact heap_setCell_same _ g 2 _ _ _ h2
theorem set3_below {w W : World} {B g : Nat} (a b c : Value) (h : Below B w W) (hg : B ≤ g) : Below B w (((W.setCell ⟨g, 0, none⟩ a).setCell ⟨g, 1, none⟩ b).setCell ⟨g, 2, none⟩ c) :=
  ((h.setCell hg _).setCell hg _).setCell hg _
set_option maxHeartbeats 2000000 in
theorem rget_first (b : List Bool) (s : St) (w : World) (h0 : s.1 = 0) (hb : b.length ≤ 1099511627776) :
    Calls Try.prog 22 #[.string (bstr b), .agg #[.int .i64 s.1, .int .i64 s.2.1, .int .i64 s.2.2]] w fun e w' => e = .returned (.tuple #[.agg #[.int .i64 (refG b s).1.1, .int .i64 (refG b s).1.2.1, .int .i64 (refG b s).1.2.2], .string (bstr (refG b s).2.1), .bool (refG b s).2.2]) ∧ Below w.heap.size w w' := by
  obtain ⟨N, T, D⟩ := s
  obtain rfl : N = 0 := h0
  obtain ⟨wA, hwA⟩ : ∃ wA, (w.alloc (RtObj (0, T, D))).alloc (RtObj (0, 0, 0)) = wA := ⟨_, rfl⟩
  have hbA : Below w.heap.size w wA := by rw [← hwA]; exact ((Below.refl _ _).alloc (Nat.le_refl _) _).alloc (by simp) _
  have hst : RtAt wA w.heap.size (0, T, D) := by rw [← hwA]; exact (heap_past _ _ (by simp)).trans (heap_alloc_new w _)
  have hres : RtAt wA (w.heap.size + 1) (0, 0, 0) := by rw [← hwA]; exact heap_at _ _ (by simp)
  have c0 := hst.c0
  have c1 := hst.c1
  have c2 := hst.c2
  have HB := Lib.hid hbA
  have HR := Lib.hid hres
  have hz := bstr_size b
  have d0 := hres.c0
  have d1 := hres.c1
  have d2 := hres.c2
  have f0 : wA.frozen? ⟨w.heap.size + 1, 0, none⟩ = false := frozen_of_row wA _ 0 _ _ hres
  have f1 : wA.frozen? ⟨w.heap.size + 1, 1, none⟩ = false := frozen_of_row wA _ 1 _ _ hres
  have f2 : wA.frozen? ⟨w.heap.size + 1, 2, none⟩ = false := frozen_of_row wA _ 2 _ _ hres
  simp only [] at d0 d1 d2
  clear hst hbA hres
  change (w.alloc (.cells #[.int .i64 0, .int .i64 T, .int .i64 D] 28 (0, 0))).alloc (.cells #[.int .i64 0, .int .i64 0, .int .i64 0] 28 (0, 0)) = wA at hwA
  have HL := Lib.hid hb
  by_cases hl : 64 ≤ b.length
  · have hG : refG b (0, T, D) = ((1, wrap64 (numB (b.take 64) : Int), 0), b.drop 64, true) := by
      unfold refG getS; rw [if_pos rfl, if_neg (by omega)]; rfl
    rw [hG]
    have hsl := slice_from (P := Try.prog) Try.underlying9 (bstr b) 64 64 rfl (by omega)
    rw [bstr_extract, hz, List.take_of_length_le (by rw [List.length_drop]; omega)] at hsl
    have HA := Lib.hid (fun W => rat_some b 0 64 0 W (by omega) (by omega) (by omega) hb)
    rw [List.drop_zero, Int.sub_zero, wrap_wrap] at HA
    obtain ⟨V, hV⟩ : ∃ V, wrap64 (numB (b.take 64) : Int) = V := ⟨_, rfl⟩
    rw [hV] at HA ⊢
    clear hV hG hz hb
    go_enter Try.func22, Try.ntmps22
    go_wp2_with fail
    refine (HA.out _).mono ?_
    rintro e w' ⟨rfl, rfl⟩
    go_wp2_with fail
    go_region
    have hfr := set3_row (.int .i64 1) (.int .i64 V) (.int .i64 0) HR.out
    have hfb := set3_below (.int .i64 1) (.int .i64 V) (.int .i64 0) HB.out (show w.heap.size ≤ w.heap.size + 1 by omega)
    generalize ((wA.setCell ⟨w.heap.size + 1, 0, none⟩ (.int .i64 1)).setCell ⟨w.heap.size + 1, 1, none⟩ (.int .i64 V)).setCell ⟨w.heap.size + 1, 2, none⟩ (.int .i64 0) = w9 at hfr hfb ⊢
    have hfr : RtAt w9.drew (w.heap.size + 1) (1, V, 0) := hfr
    have r0 := hfr.c0
    have r1 := hfr.c1
    have r2 := hfr.c2
    have HFB := Lib.hid hfb
    simp only [] at r0 r1 r2
    clear hfr hfb d0 d1 d2 f0 f1 f2 c0 c1 c2
    go_wp2
    refine bodyPost_ret (v := .tuple #[.agg #[.int .i64 1, .int .i64 V, .int .i64 0], .string (bstr (b.drop 64)), .bool true]) ?_ rfl ⟨rfl, HFB.out.trans ⟨rfl, rfl, rfl, Nat.le_refl _, fun _ _ => rfl⟩⟩
    simp [results, Try.results22, go_sem, r0, r1, r2]
  · have hG : refG b (0, T, D) = ((0, T, D), b, false) := by
      unfold refG getS; rw [if_pos rfl, if_pos (by omega)]
    rw [hG]
    have HA := Lib.hid (fun W => rat_none b 0 64 0 W (by omega) (by omega) (by omega))
    clear hG hz hb
    go_enter Try.func22, Try.ntmps22
    go_wp2_with fail
    refine (HA.out _).mono ?_
    rintro e w' ⟨rfl, rfl⟩
    go_wp2_with fail
    have hfr := set3_row (.int .i64 0) (.int .i64 T) (.int .i64 D) HR.out
    have hfb := set3_below (.int .i64 0) (.int .i64 T) (.int .i64 D) HB.out (show w.heap.size ≤ w.heap.size + 1 by omega)
    generalize ((wA.setCell ⟨w.heap.size + 1, 0, none⟩ (.int .i64 0)).setCell ⟨w.heap.size + 1, 1, none⟩ (.int .i64 T)).setCell ⟨w.heap.size + 1, 2, none⟩ (.int .i64 D) = w9 at hfr hfb ⊢
    have hfr : RtAt w9 (w.heap.size + 1) (0, T, D) := hfr
    have r0 := hfr.c0
    have r1 := hfr.c1
    have r2 := hfr.c2
    simp only [] at r0 r1 r2
    refine bodyPost_ret (v := .tuple #[.agg #[.int .i64 0, .int .i64 T, .int .i64 D], .string (bstr b), .bool false]) ?_ rfl ⟨rfl, hfb⟩
    simp [results, Try.results22, go_sem, r0, r1, r2]
end Go.Proofs.Ytdnipfkpfdglnaa.StW
