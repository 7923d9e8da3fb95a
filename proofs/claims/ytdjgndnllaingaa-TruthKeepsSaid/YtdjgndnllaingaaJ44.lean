/-
  truth.Do IN A LOOP, ITS RESULTS IN BOXES THAT ARE MADE BEFORE IT OR BEHIND IT.
  ALL SERIES: THE PLAIN LAW OF THE SIX STATEMENTS, further.
-/
import Derived.Test.YtdjgndnllaingaaJ43
import Derived.Deep.CutRange
import Derived.Test.YtdjgndnllaingaaJ41
import Derived.Test.YtdjgndnllaingaaJ29
/-
  truth.Do IN A LOOP, ITS RESULTS IN BOXES THAT ARE MADE BEFORE IT OR BEHIND IT.
-/
namespace Go.Proofs.Ytdjgndnllaingaa.TrW
set_option linter.unusedVariables false
open Go.RowKit Go.Shelf LabM LbM LabW FrW TrM
theorem store3 {W : World} {g : Nat} {a b c : Value} {t : TypeId} (hg : W.heap[g]? = some (.cells #[a, b, c] t (0, 0))) (v u x : Value) :
    ∃ s1 s2 s3, W.setCell ⟨g, 0, none⟩ v = s1 ∧ s1.setCell ⟨g, 1, none⟩ u = s2 ∧ s2.setCell ⟨g, 2, none⟩ x = s3 ∧ ((∃ v, W.cell? ⟨g, 0, none⟩ = some v) ∧ W.frozen? ⟨g, 0, none⟩ = false ∧ (∃ v, s1.cell? ⟨g, 1, none⟩ = some v) ∧ s1.frozen? ⟨g, 1, none⟩ = false ∧ (∃ v, s2.cell? ⟨g, 2, none⟩ = some v) ∧ s2.frozen? ⟨g, 2, none⟩ = false) ∧
      s3.heap[g]? = some (.cells #[v, u, x] t (0, 0)) ∧ (∀ j, j ≠ g → s3.heap[j]? = W.heap[j]?) ∧ s3.heap.size = W.heap.size ∧ s3.os = W.os ∧ s3.tape = W.tape ∧ s3.output = W.output := by
  obtain ⟨s1, h1⟩ : ∃ s1, W.setCell ⟨g, 0, none⟩ v = s1 := ⟨_, rfl⟩
  obtain ⟨s2, h2⟩ : ∃ s2, s1.setCell ⟨g, 1, none⟩ u = s2 := ⟨_, rfl⟩
  obtain ⟨s3, h3⟩ : ∃ s3, s2.setCell ⟨g, 2, none⟩ x = s3 := ⟨_, rfl⟩
  have r1 : s1.heap[g]? = some (.cells #[v, b, c] t (0, 0)) := by rw [← h1]; exact heap_setCell_same W _ 0 _ _ _ hg
  have r2 : s2.heap[g]? = some (.cells #[v, u, c] t (0, 0)) := by rw [← h2]; exact heap_setCell_same s1 _ 1 _ _ _ r1
  have r3 : s3.heap[g]? = some (.cells #[v, u, x] t (0, 0)) := by rw [← h3]; exact heap_setCell_same s2 _ 2 _ _ _ r2
  exact ⟨s1, s2, s3, h1, h2, h3, ⟨⟨_, by rw [cell_of_row _ _ _ _ _ _ hg]; rfl⟩, frozen_of_row W _ 0 _ _ hg, ⟨_, by rw [cell_of_row _ _ _ _ _ _ r1]; rfl⟩, frozen_of_row s1 _ 1 _ _ r1, ⟨_, by rw [cell_of_row _ _ _ _ _ _ r2]; rfl⟩, frozen_of_row s2 _ 2 _ _ r2⟩, r3, fun j hj => by rw [← h3, ← h2, ← h1]; exact (heap_setCell_other _ _ _ _ hj).trans ((heap_setCell_other _ _ _ _ hj).trans (heap_setCell_other _ _ _ _ hj)), by rw [← h3, ← h2, ← h1]; simp, by rw [← h3, ← h2, ← h1]; rfl, by rw [← h3, ← h2, ← h1]; rfl, by rw [← h3, ← h2, ← h1]; rfl⟩
/-- What stands behind it. -/
structure AftR (wr W : World) (g9 g10 : Nat) (A9 : Option Addr) (n9 c9 : Nat) (t : St) (AR : Option Addr) (nr cr : Nat) (r : List Rec) (e N : Int) (AS : Option Addr) (ns cs : Nat) (l : List Ser) : Prop where
  box : W.heap[g9]? = some (.cells #[.slice A9 n9 c9, .int .i64 t.2] 28 (0, 0))
  ans : W.heap[g10]? = some (.cells #[.int .i64 e, .int .i64 N, .slice AS ns cs] 31 (0, 0))
  st : StA W A9 n9 c9 t
  re : ReA W AR nr cr r
  se : SeA W AS ns cs l
  below : Below wr.heap.size wr W
theorem put_both {wr X : World} {g9 g10 : Nat} {A9 : Option Addr} {n9 c9 : Nat} {t : St} {AR : Option Addr} {nr cr : Nat} {r : List Rec} {AS : Option Addr} {ns cs : Nat} {l : List Ser}
    (h9 : X.heap[g9]? = some (.cells #[.slice none 0 0, .int .i64 0] 28 (0, 0))) (h10 : X.heap[g10]? = some (.cells #[.int .i64 0, .int .i64 0, .slice none 0 0] 31 (0, 0))) (hne : g9 ≠ g10) (hS : StA X A9 n9 c9 t) (hR : ReA X AR nr cr r) (hL : SeA X AS ns cs l) (hb : Below wr.heap.size wr X) (hg9 : wr.heap.size ≤ g9) (hg10 : wr.heap.size ≤ g10) (e N : Int) :
    ∃ s1 s2 s3 s4 s5, X.setCell ⟨g9, 0, none⟩ (.slice A9 n9 c9) = s1 ∧ s1.setCell ⟨g9, 1, none⟩ (.int .i64 t.2) = s2 ∧ s2.setCell ⟨g10, 0, none⟩ (.int .i64 e) = s3 ∧ s3.setCell ⟨g10, 1, none⟩ (.int .i64 N) = s4 ∧ s4.setCell ⟨g10, 2, none⟩ (.slice AS ns cs) = s5 ∧
      ((∃ v, X.cell? ⟨g9, 0, none⟩ = some v) ∧ X.frozen? ⟨g9, 0, none⟩ = false ∧ (∃ v, s1.cell? ⟨g9, 1, none⟩ = some v) ∧ s1.frozen? ⟨g9, 1, none⟩ = false) ∧ ((∃ v, s2.cell? ⟨g10, 0, none⟩ = some v) ∧ s2.frozen? ⟨g10, 0, none⟩ = false ∧ (∃ v, s3.cell? ⟨g10, 1, none⟩ = some v) ∧ s3.frozen? ⟨g10, 1, none⟩ = false ∧ (∃ v, s4.cell? ⟨g10, 2, none⟩ = some v) ∧ s4.frozen? ⟨g10, 2, none⟩ = false) ∧
      AftR wr s5 g9 g10 A9 n9 c9 t AR nr cr r e N AS ns cs l := by
  obtain ⟨s1, s2, a1, a2, a3, a4, a5, a6, a7, a8, a9⟩ := store2 h9 (.slice A9 n9 c9) (.int .i64 t.2)
  obtain ⟨s3, s4, s5, b1, b2, b3, b4, b5, b6, b7, b8, b9, b10⟩ := store3 ((a5 g10 (fun e => hne e.symm)).trans h10) (.int .i64 e) (.int .i64 N) (.slice AS ns cs)
  have hr10 := (a5 g10 (fun e => hne e.symm)).trans h10
  refine ⟨s1, s2, s3, s4, s5, a1, a2, b1, b2, b3, a3, b4, ⟨(b6 g9 hne).trans a4, b5, ?_, ?_, ?_, ?_⟩⟩
  · exact (hS.off h9 (alien_state _ _ _ _) a5 (by omega)).off hr10 (alien_answer _ _ _ _ _) b6 (by omega)
  · exact (hR.off h9 (alien_state _ _ _ _) (by simp) a5 (by omega)).off hr10 (alien_answer _ _ _ _ _) (by simp) b6 (by omega)
  · exact (hL.off h9 (alien_state _ _ _ _) a5 (by omega)).off hr10 (alien_answer _ _ _ _ _) b6 (by omega)
  · exact ⟨b8.trans (a7.trans hb.os), b9.trans (a8.trans hb.tape), b10.trans (a9.trans hb.output), by rw [b7, a6]; exact hb.size, fun j hj => (b6 j (by omega)).trans ((a5 j (by omega)).trans (hb.block j hj))⟩
/-- A call of Do, in whatever world came of wr. -/
def DoAt (wr : World) (args : Array Value) (t : St) (a : Ans) (r : List Rec) (W : World) : Prop :=
  Calls Try.prog 11 args W fun e w5 => ∃ A9 n9 c9 AR nr cr AS ns cs, e = .returned (.tuple #[.agg #[.slice A9 n9 c9, .int .i64 t.2], .agg #[.int .i64 a.1, .int .i64 a.2.1, .slice AS ns cs], .slice AR nr cr]) ∧ StA w5 A9 n9 c9 t ∧ ReA w5 AR nr cr r ∧ SeA w5 AS ns cs a.2.2 ∧ Below W.heap.size W w5
end Go.Proofs.Ytdjgndnllaingaa.TrW
/-
  ALL SERIES: THE PLAIN LAW OF THE SIX STATEMENTS, further.
-/
namespace Go.Proofs.Ytdjgndnllaingaa.TrM
set_option linter.unusedVariables false
open LabM LbM LabW FrW
theorem ask_small {s t : St} (hv : Valid s) {o : Op} {gen e N : Int} {l : List Ser} {r : List Rec} (hk : o.kd = 3) (hd : doM s o gen = (t, (e, N, l), r)) : l.length ≤ 20 ∧ ∀ y ∈ l, y.2.1.length ≤ 200 := by
  rw [do_ask hk] at hd
  by_cases ha : askedB o = false
  · rw [if_pos ha] at hd
    obtain ⟨-, h2⟩ := Prod.mk.inj hd
    obtain ⟨h2, -⟩ := Prod.mk.inj h2
    obtain ⟨-, h2⟩ := Prod.mk.inj h2
    obtain ⟨-, h2⟩ := Prod.mk.inj h2
    subst h2
    exact ⟨Nat.zero_le _, fun y hy => by cases hy⟩
  · rw [if_neg ha] at hd
    obtain ⟨-, h2⟩ := Prod.mk.inj hd
    obtain ⟨h2, -⟩ := Prod.mk.inj h2
    obtain ⟨-, h2⟩ := Prod.mk.inj h2
    obtain ⟨-, h2⟩ := Prod.mk.inj h2
    subst h2
    refine ⟨?_, fun y hy => ?_⟩
    · rw [List.length_map]; exact Nat.le_trans (List.length_filter_le ..) hv.len
    · obtain ⟨x, hx, rfl⟩ := List.mem_map.1 hy
      exact Nat.le_trans (List.length_filter_le ..) (hv.right x (List.mem_filter.1 hx).1).len
def lens (l : List Ser) (k : Nat) : Nat := ((l.take k).map (fun x => x.2.1.length)).sum
theorem lens_step (l : List Ser) (k : Nat) (h : k < l.length) : lens l (k + 1) = lens l k + l[k].2.1.length := by
  unfold lens
  rw [List.take_succ_eq_append_getElem h, List.map_append, List.sum_append]
  simp
theorem lens_all (l : List Ser) (k : Nat) (h : l.length ≤ k) : lens l k = (l.map (fun x => x.2.1.length)).sum := by
  unfold lens; rw [List.take_of_length_le h]
theorem lens_le (l : List Ser) (h : ∀ y ∈ l, y.2.1.length ≤ 200) : ∀ k, lens l k ≤ 200 * k
  | 0 => by unfold lens; simp
  | k + 1 => by
    have ih := lens_le l h k
    by_cases hk : k < l.length
    · rw [lens_step l k hk]
      have := h _ (List.getElem_mem hk)
      omega
    · have : lens l (k + 1) = lens l k := by unfold lens; rw [List.take_of_length_le (by omega), List.take_of_length_le (by omega)]
      omega
end Go.Proofs.Ytdjgndnllaingaa.TrM
namespace Go.Proofs.Ytdjgndnllaingaa.TrM
open LabM LbM LabW FrW
theorem recs_len {s : St} (hv : Valid s) (o : Op) (gen : Int) : (doM s o gen).2.2.length ≤ 20 := by
  by_cases h0 : o.kd = 0
  · rw [do_put h0]
    by_cases ha : allowed s o.ls (o.t, o.v) gen = (0, false)
    · rw [if_pos ha]; show 1 ≤ 20; omega
    · rw [if_neg ha]; exact Nat.zero_le _
  by_cases h1 : o.kd = 1
  · rw [do_del h1]
    by_cases ha : askedB o = false
    · rw [if_pos ha]; exact Nat.zero_le _
    · rw [if_neg ha]
      show ((s.1.filter (hitB o)).map (delR o)).length ≤ 20
      rw [List.length_map]; exact Nat.le_trans (List.length_filter_le ..) hv.len
  by_cases h2 : o.kd = 2
  · rw [do_keep h2]
    by_cases ha : timely o.t = false
    · rw [if_pos ha]; exact Nat.zero_le _
    rw [if_neg ha]
    by_cases hb : o.t ≤ s.2
    · rw [if_pos hb]; exact Nat.zero_le _
    · rw [if_neg hb]; show 1 ≤ 20; omega
  by_cases h3 : o.kd = 3
  · rw [do_ask h3]
    by_cases ha : askedB o = false
    · rw [if_pos ha]; exact Nat.zero_le _
    · rw [if_neg ha]; exact Nat.zero_le _
  · rw [do_else h0 h1 h2 h3]; exact Nat.zero_le _
end Go.Proofs.Ytdjgndnllaingaa.TrM
