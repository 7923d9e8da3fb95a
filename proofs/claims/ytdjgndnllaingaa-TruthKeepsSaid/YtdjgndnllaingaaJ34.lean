/-
  truth.Do: WHAT STANDS WHERE.
  truth.Do OF ONE KIND: THE WALK. (Printed by gen/trdo.py.)
  truth.delete: WHAT STANDS IN MEMORY AS IT GOES ON.
-/
import Derived.Test.YtdjgndnllaingaaJ33
import Derived.Deep.RegionLaw
/-
  truth.Do: WHAT STANDS WHERE.
-/
namespace Go.Proofs.Ytdjgndnllaingaa.TrW
set_option linter.unusedVariables false
open Go.RowKit Go.Shelf LabM LbM LabW FrW TrM
def opRow (o : OpH) : Array Value := #[.int .i64 o.kd, hdV o.ls.1, hdV o.ms.1, .int .i64 o.t, .int .i64 o.te, .int .u64 o.v, .int .i64 o.g]
/-- What Do leaves. -/
def Done (res : St × Ans × List Rec) (w : World) (e : Ending) (w' : World) : Prop :=
  ∃ A9 n9 c9 F9 AR nr cr RS AS ns cs SS, e = .returned (.tuple #[.agg #[.slice A9 n9 c9, .int .i64 res.1.2], .agg #[.int .i64 res.2.1.1, .int .i64 res.2.1.2.1, .slice AS ns cs], .slice AR nr cr]) ∧ StV w' A9 n9 c9 F9 res.1.2 ∧ F9.map absR = res.1.1 ∧ Recs w' AR nr cr RS ∧ RS.map absC = res.2.2 ∧ Sers w' AS ns cs SS ∧ SS.map absR = res.2.1.2.2 ∧ Below w.heap.size w w'
/-- The five blocks that Do makes. -/
structure DoB (w W : World) (A : Option Addr) (n c : Nat) (f gen : Int) (o : OpH) : Prop where
  below : Below w.heap.size w W
  size : W.heap.size = w.heap.size + 5
  st : W.heap[w.heap.size]? = some (.cells #[.slice A n c, .int .i64 f] 28 (0, 0))
  op : W.heap[w.heap.size + 1]? = some (.cells (opRow o) 39 (0, 0))
  rs : W.heap[w.heap.size + 2]? = some (.cells #[.slice none 0 0, .int .i64 0] 28 (0, 0))
  ra : W.heap[w.heap.size + 3]? = some (.cells #[.int .i64 0, .int .i64 0, .slice none 0 0] 31 (0, 0))
  d : DAt W (w.heap.size + 4) A n c f gen o (.slice none 0 0)
theorem DoB.new (w : World) (A : Option Addr) (n c : Nat) (f gen : Int) (o : OpH) : ∃ Wa Wb Wc Wd We, w.alloc (.cells #[.slice A n c, .int .i64 f] 28 (0, 0)) = Wa ∧ Wa.alloc (.cells (opRow o) 39 (0, 0)) = Wb ∧ Wb.alloc (.cells #[.slice none 0 0, .int .i64 0] 28 (0, 0)) = Wc ∧ Wc.alloc (.cells #[.int .i64 0, .int .i64 0, .slice none 0 0] 31 (0, 0)) = Wd ∧ Wd.alloc (.cells (dRow A n c f gen o (.slice none 0 0)) 68 (0, 0)) = We ∧ Wa.heap.size = w.heap.size + 1 ∧ Wb.heap.size = w.heap.size + 2 ∧ Wc.heap.size = w.heap.size + 3 ∧ Wd.heap.size = w.heap.size + 4 ∧
    (Wd.heap[w.heap.size]? = some (.cells #[.slice A n c, .int .i64 f] 28 (0, 0)) ∧ Wd.heap[w.heap.size + 1]? = some (.cells (opRow o) 39 (0, 0))) ∧ DoB w We A n c f gen o := by
  refine ⟨_, _, _, _, _, rfl, rfl, rfl, rfl, rfl, by simp, by simp, by simp, by simp, ?_⟩
  generalize hWa : w.alloc (.cells #[.slice A n c, .int .i64 f] 28 (0, 0)) = Wa
  generalize hWb : Wa.alloc (.cells (opRow o) 39 (0, 0)) = Wb
  generalize hWc : Wb.alloc (.cells #[.slice none 0 0, .int .i64 0] 28 (0, 0)) = Wc
  generalize hWd : Wc.alloc (.cells #[.int .i64 0, .int .i64 0, .slice none 0 0] 31 (0, 0)) = Wd
  generalize hWe : Wd.alloc (.cells (dRow A n c f gen o (.slice none 0 0)) 68 (0, 0)) = We
  have za : Wa.heap.size = w.heap.size + 1 := by rw [← hWa]; simp
  have zb : Wb.heap.size = w.heap.size + 2 := by rw [← hWb]; simp [za]
  have zc : Wc.heap.size = w.heap.size + 3 := by rw [← hWc]; simp [zb]
  have zd : Wd.heap.size = w.heap.size + 4 := by rw [← hWd]; simp [zc]
  have ze : We.heap.size = w.heap.size + 5 := by rw [← hWe]; simp [zd]
  have ba : Below w.heap.size w Wa := by rw [← hWa]; exact (Below.refl _ _).alloc (Nat.le_refl _) _
  have bb : Below Wa.heap.size Wa Wb := by rw [← hWb]; exact (Below.refl _ _).alloc (Nat.le_refl _) _
  have bc : Below Wb.heap.size Wb Wc := by rw [← hWc]; exact (Below.refl _ _).alloc (Nat.le_refl _) _
  have bd : Below Wc.heap.size Wc Wd := by rw [← hWd]; exact (Below.refl _ _).alloc (Nat.le_refl _) _
  have be : Below Wd.heap.size Wd We := by rw [← hWe]; exact (Below.refl _ _).alloc (Nat.le_refl _) _
  have ra : Wa.heap[w.heap.size]? = some (.cells #[.slice A n c, .int .i64 f] 28 (0, 0)) := by rw [← hWa]; exact heap_alloc_new w _
  have rb : Wb.heap[w.heap.size + 1]? = some (.cells (opRow o) 39 (0, 0)) := by rw [← hWb, ← za]; exact heap_alloc_new Wa _
  have rc : Wc.heap[w.heap.size + 2]? = some (.cells #[.slice none 0 0, .int .i64 0] 28 (0, 0)) := by rw [← hWc, ← zb]; exact heap_alloc_new Wb _
  have rd : Wd.heap[w.heap.size + 3]? = some (.cells #[.int .i64 0, .int .i64 0, .slice none 0 0] 31 (0, 0)) := by rw [← hWd, ← zc]; exact heap_alloc_new Wc _
  have re : We.heap[w.heap.size + 4]? = some (.cells (dRow A n c f gen o (.slice none 0 0)) 68 (0, 0)) := by rw [← hWe, ← zd]; exact heap_alloc_new Wd _
  have rad := (bd.block _ (by omega)).trans ((bc.block _ (by omega)).trans ((bb.block _ (by omega)).trans ra))
  have rbd := (bd.block _ (by omega)).trans ((bc.block _ (by omega)).trans rb)
  have rcd := (bd.block _ (by omega)).trans rc
  exact ⟨⟨rad, rbd⟩, later (later (later (later ba bb) bc) bd) be, ze, (be.block _ (by omega)).trans rad, (be.block _ (by omega)).trans rbd, (be.block _ (by omega)).trans rcd, (be.block _ (by omega)).trans rd, re⟩
/-- All that Do hands back, in a world. -/
def DoF (w W : World) (A9 : Option Addr) (n9 c9 : Nat) (F9 : List SerH) (fm : Int) (AR : Option Addr) (nr cr : Nat) (RS : List RecH) (AS : Option Addr) (ns cs : Nat) (SS : List SerH) : Prop := StV W A9 n9 c9 F9 fm ∧ Recs W AR nr cr RS ∧ Sers W AS ns cs SS ∧ Below w.heap.size w W
section
variable {w W : World} {A9 : Option Addr} {n9 c9 : Nat} {F9 : List SerH} {fm : Int} {AR : Option Addr} {nr cr : Nat} {RS : List RecH} {AS : Option Addr} {ns cs : Nat} {SS : List SerH}
theorem DoF.set (h : DoF w W A9 n9 c9 F9 fm AR nr cr RS AS ns cs SS) {g j : Nat} {row : Array Value} {t : TypeId} (v : Value) (hg : W.heap[g]? = some (.cells row t (0, 0))) (hal : Alien row) (h4 : row.size ≤ 4) (hge : w.heap.size ≤ g) : DoF w (W.setCell ⟨g, j, none⟩ v) A9 n9 c9 F9 fm AR nr cr RS AS ns cs SS :=
  ⟨h.1.off hg hal (fun j hj => heap_setCell_other _ _ _ _ hj) (by simp), h.2.1.off hg hal h4 (fun j hj => heap_setCell_other _ _ _ _ hj) (by simp), h.2.2.1.off hg hal (fun j hj => heap_setCell_other _ _ _ _ hj) (by simp), h.2.2.2.setCell hge v⟩
theorem stS (h : DoF w W A9 n9 c9 F9 fm AR nr cr RS AS ns cs SS) {g : Nat} {A0 : Option Addr} {n0 c0 : Nat} {f0 : Int} (hg : W.heap[g]? = some (.cells #[.slice A0 n0 c0, .int .i64 f0] 28 (0, 0))) (hge : w.heap.size ≤ g) :
    ∃ s1 s2, W.setCell ⟨g, 0, none⟩ (.slice A9 n9 c9) = s1 ∧ s1.setCell ⟨g, 1, none⟩ (.int .i64 fm) = s2 ∧ ((∃ v, W.cell? ⟨g, 0, none⟩ = some v) ∧ W.frozen? ⟨g, 0, none⟩ = false ∧ (∃ v, s1.cell? ⟨g, 1, none⟩ = some v) ∧ s1.frozen? ⟨g, 1, none⟩ = false) ∧
      s2.heap[g]? = some (.cells #[.slice A9 n9 c9, .int .i64 fm] 28 (0, 0)) ∧ (∀ j, j ≠ g → s2.heap[j]? = W.heap[j]?) ∧ DoF w s2 A9 n9 c9 F9 fm AR nr cr RS AS ns cs SS := by
  obtain ⟨s1, h1⟩ : ∃ s1, W.setCell ⟨g, 0, none⟩ (.slice A9 n9 c9) = s1 := ⟨_, rfl⟩
  obtain ⟨s2, h2⟩ : ∃ s2, s1.setCell ⟨g, 1, none⟩ (.int .i64 fm) = s2 := ⟨_, rfl⟩
  have r1 : s1.heap[g]? = some (.cells #[.slice A9 n9 c9, .int .i64 f0] 28 (0, 0)) := by rw [← h1]; exact heap_setCell_same W _ 0 _ _ _ hg
  have r2 : s2.heap[g]? = some (.cells #[.slice A9 n9 c9, .int .i64 fm] 28 (0, 0)) := by rw [← h2]; exact heap_setCell_same s1 _ 1 _ _ _ r1
  have d1 : DoF w s1 A9 n9 c9 F9 fm AR nr cr RS AS ns cs SS := by rw [← h1]; exact h.set _ hg (alien_state _ _ _ _) (by simp) hge
  have d2 : DoF w s2 A9 n9 c9 F9 fm AR nr cr RS AS ns cs SS := by rw [← h2]; exact d1.set _ r1 (alien_state _ _ _ _) (by simp) hge
  exact ⟨s1, s2, h1, h2, ⟨⟨_, by rw [cell_of_row _ _ _ _ _ _ hg]; rfl⟩, frozen_of_row W _ 0 _ _ hg, ⟨_, by rw [cell_of_row _ _ _ _ _ _ r1]; rfl⟩, frozen_of_row s1 _ 1 _ _ r1⟩, r2, fun j hj => by rw [← h2, ← h1]; exact (heap_setCell_other _ _ _ _ hj).trans (heap_setCell_other _ _ _ _ hj), d2⟩
theorem stA (h : DoF w W A9 n9 c9 F9 fm AR nr cr RS AS ns cs SS) (er N : Int) {g : Nat} {e0 N0 : Int} {A0 : Option Addr} {n0 c0 : Nat} (hg : W.heap[g]? = some (.cells #[.int .i64 e0, .int .i64 N0, .slice A0 n0 c0] 31 (0, 0))) (hge : w.heap.size ≤ g) :
    ∃ s1 s2 s3, W.setCell ⟨g, 0, none⟩ (.int .i64 er) = s1 ∧ s1.setCell ⟨g, 1, none⟩ (.int .i64 N) = s2 ∧ s2.setCell ⟨g, 2, none⟩ (.slice AS ns cs) = s3 ∧ ((∃ v, W.cell? ⟨g, 0, none⟩ = some v) ∧ W.frozen? ⟨g, 0, none⟩ = false ∧ (∃ v, s1.cell? ⟨g, 1, none⟩ = some v) ∧ s1.frozen? ⟨g, 1, none⟩ = false ∧ (∃ v, s2.cell? ⟨g, 2, none⟩ = some v) ∧ s2.frozen? ⟨g, 2, none⟩ = false) ∧
      s3.heap[g]? = some (.cells #[.int .i64 er, .int .i64 N, .slice AS ns cs] 31 (0, 0)) ∧ (∀ j, j ≠ g → s3.heap[j]? = W.heap[j]?) ∧ DoF w s3 A9 n9 c9 F9 fm AR nr cr RS AS ns cs SS := by
  obtain ⟨s1, h1⟩ : ∃ s1, W.setCell ⟨g, 0, none⟩ (.int .i64 er) = s1 := ⟨_, rfl⟩
  obtain ⟨s2, h2⟩ : ∃ s2, s1.setCell ⟨g, 1, none⟩ (.int .i64 N) = s2 := ⟨_, rfl⟩
  obtain ⟨s3, h3⟩ : ∃ s3, s2.setCell ⟨g, 2, none⟩ (.slice AS ns cs) = s3 := ⟨_, rfl⟩
  have r1 : s1.heap[g]? = some (.cells #[.int .i64 er, .int .i64 N0, .slice A0 n0 c0] 31 (0, 0)) := by rw [← h1]; exact heap_setCell_same W _ 0 _ _ _ hg
  have r2 : s2.heap[g]? = some (.cells #[.int .i64 er, .int .i64 N, .slice A0 n0 c0] 31 (0, 0)) := by rw [← h2]; exact heap_setCell_same s1 _ 1 _ _ _ r1
  have r3 : s3.heap[g]? = some (.cells #[.int .i64 er, .int .i64 N, .slice AS ns cs] 31 (0, 0)) := by rw [← h3]; exact heap_setCell_same s2 _ 2 _ _ _ r2
  have d1 : DoF w s1 A9 n9 c9 F9 fm AR nr cr RS AS ns cs SS := by rw [← h1]; exact h.set _ hg (alien_answer _ _ _ _ _) (by simp) hge
  have d2 : DoF w s2 A9 n9 c9 F9 fm AR nr cr RS AS ns cs SS := by rw [← h2]; exact d1.set _ r1 (alien_answer _ _ _ _ _) (by simp) hge
  have d3 : DoF w s3 A9 n9 c9 F9 fm AR nr cr RS AS ns cs SS := by rw [← h3]; exact d2.set _ r2 (alien_answer _ _ _ _ _) (by simp) hge
  exact ⟨s1, s2, s3, h1, h2, h3, ⟨⟨_, by rw [cell_of_row _ _ _ _ _ _ hg]; rfl⟩, frozen_of_row W _ 0 _ _ hg, ⟨_, by rw [cell_of_row _ _ _ _ _ _ r1]; rfl⟩, frozen_of_row s1 _ 1 _ _ r1, ⟨_, by rw [cell_of_row _ _ _ _ _ _ r2]; rfl⟩, frozen_of_row s2 _ 2 _ _ r2⟩, r3, fun j hj => by rw [← h3, ← h2, ← h1]; exact (heap_setCell_other _ _ _ _ hj).trans ((heap_setCell_other _ _ _ _ hj).trans (heap_setCell_other _ _ _ _ hj)), d3⟩
end
end Go.Proofs.Ytdjgndnllaingaa.TrW
/-
  truth.Do OF ONE KIND: THE WALK. (Printed by gen/trdo.py.)
-/
namespace Go.Proofs.Ytdjgndnllaingaa.TrW
set_option linter.unusedVariables false
open Go.RowKit Go.Shelf LabM LbM LabW FrW TrM
set_option maxRecDepth 20000 in
set_option maxHeartbeats 8000000 in
theorem do_0 (A : Option Addr) (n c : Nat) (hs : List SerH) (f gen : Int) (o : OpH) (w : World) (hst : StV w A n c hs f) (ho : OkO w o) (hk : o.kd = 0) :
    Calls Try.prog 11 #[.agg #[.slice A n c, .int .i64 f], .agg #[.int .i64 0, hdV o.ls.1, hdV o.ms.1, .int .i64 o.t, .int .i64 o.te, .int .u64 o.v, .int .i64 o.g], .int .i64 gen] w (Done (doM (hs.map absR, f) (absO o) gen) w) := by
  obtain ⟨Wa, Wb, Wc, Wd, We, ha, hb, hc, hdd, he, za, zb, zc, zd, ⟨rst, rop⟩, hB⟩ := DoB.new w A n c f gen o
  have KM := Lib.hid (append_do (w.heap.size + 4) A n c hs f gen o We hB.d (hst.later hB.below) (ho.later hB.below) hk)
  have hop1 := hB.op
  unfold opRow at hb rop hop1
  unfold dRow at he
  rw [hk] at hb rop hop1 he
  obtain ⟨x0, x1⟩ : Wd.cell? ⟨w.heap.size, 0, none⟩ = some (.slice A n c) ∧ Wd.cell? ⟨w.heap.size, 1, none⟩ = some (.int .i64 f) := by
    refine ⟨?_, ?_⟩ <;> (rw [cell_of_row _ _ _ _ _ _ rst]; rfl)
  obtain ⟨y0, y1, y2, y3, y4, y5, y6⟩ : Wd.cell? ⟨w.heap.size + 1, 0, none⟩ = some (.int .i64 0) ∧ Wd.cell? ⟨w.heap.size + 1, 1, none⟩ = some (hdV o.ls.1) ∧ Wd.cell? ⟨w.heap.size + 1, 2, none⟩ = some (hdV o.ms.1) ∧ Wd.cell? ⟨w.heap.size + 1, 3, none⟩ = some (.int .i64 o.t) ∧ Wd.cell? ⟨w.heap.size + 1, 4, none⟩ = some (.int .i64 o.te) ∧ Wd.cell? ⟨w.heap.size + 1, 5, none⟩ = some (.int .u64 o.v) ∧ Wd.cell? ⟨w.heap.size + 1, 6, none⟩ = some (.int .i64 o.g) := by
    refine ⟨?_, ?_, ?_, ?_, ?_, ?_, ?_⟩ <;> (rw [cell_of_row _ _ _ _ _ _ rop]; rfl)
  have g0 : We.cell? ⟨w.heap.size + 1, 0, none⟩ = some (.int .i64 0) := by rw [cell_of_row _ _ _ _ _ _ hop1]; rfl
  have HB := Lib.hid hB
  have HH := Lib.hid (And.intro hst ho)
  generalize doM (hs.map absR, f) (absO o) gen = res at *
  obtain ⟨⟨sm, fm⟩, ⟨er, N, sa⟩, rl⟩ := res
  unfold hdV at y1 y2 hb he
  show Calls Try.prog 11 #[.agg #[.slice A n c, .int .i64 f], .agg #[.int .i64 0, .slice o.ls.1.1 o.ls.1.2.1 o.ls.1.2.2, .slice o.ms.1.1 o.ms.1.2.1 o.ms.1.2.2, .int .i64 o.t, .int .i64 o.te, .int .u64 o.v, .int .i64 o.g], .int .i64 gen] w _
  clear hst ho hB rst rop hop1
  go_enter Try.func11, Try.ntmps11
  go_wp2_with fail
  refine KM.out.mono ?_
  rintro e w2 ⟨A9, n9, c9, F9, AR, nr, cr, RS, AS, ns, cs, SS, rfl, hD, hS9, hm9, hRS, hmr, hSS, hms, hgr⟩
  simp only [] at hD hS9 hm9 hmr hms ⊢
  clear x0 x1 y0 y1 y2 y3 y4 y5 y6 g0 ha hb hc hdd he za zb zc zd KM
  obtain ⟨w3, h3⟩ : ∃ w3, w2.alloc (.cells #[.int .i64 er, .int .i64 N, .slice AS ns cs] 31 (0, 0)) = w3 := ⟨_, rfl⟩
  have hb3 : Below w2.heap.size w2 w3 := by rw [← h3]; exact (Below.refl _ _).alloc (Nat.le_refl _) _
  have hb3d : Below w2.heap.size w2 w3.drew := ⟨hb3.os, hb3.tape, hb3.output, hb3.size, hb3.block⟩
  have hrx : w3.heap[w2.heap.size]? = some (.cells #[.int .i64 er, .int .i64 N, .slice AS ns cs] 31 (0, 0)) := by rw [← h3]; exact heap_alloc_new w2 _
  have hz2 := hgr.size
  have hze := HB.out.size
  have hr2 := (hgr.block (w.heap.size + 2) (by omega) (by simp)).trans HB.out.rs
  have hr3 := (hgr.block (w.heap.size + 3) (by omega) (by simp)).trans HB.out.ra
  have hbw2 : Below w.heap.size w w2 := ⟨hgr.os.trans HB.out.below.os, hgr.tape.trans HB.out.below.tape, hgr.output.trans HB.out.below.output, Nat.le_trans HB.out.below.size hz2, fun k hk => (hgr.block k (by omega) (by simp; omega)).trans (HB.out.below.block k hk)⟩
  have hF0 : DoF w w3.drew A9 n9 c9 F9 fm AR nr cr RS AS ns cs SS := ⟨hS9.later hb3d, hRS.later hb3d, hSS.later hb3d, later hbw2 hb3d⟩
  have hr2' := (hb3d.block _ (by omega)).trans hr2
  have hr3' := (hb3d.block _ (by omega)).trans hr3
  have hD3 := hD.later hb3
  obtain ⟨⟨x0, x1⟩, -, -, -, -, -, -, -, x9⟩ := hD3.cells
  obtain ⟨y0, y1, y2⟩ : w3.cell? ⟨w2.heap.size, 0, none⟩ = some (.int .i64 er) ∧ w3.cell? ⟨w2.heap.size, 1, none⟩ = some (.int .i64 N) ∧ w3.cell? ⟨w2.heap.size, 2, none⟩ = some (.slice AS ns cs) := by
    refine ⟨?_, ?_, ?_⟩ <;> (rw [cell_of_row _ _ _ _ _ _ hrx]; rfl)
  -- one order
  obtain ⟨s1, s2, e1, e2, ⟨⟨v1, p1⟩, p2, ⟨v2, p3⟩, p4⟩, p5, p6, p7⟩ := stS hF0 hr2' (by omega)
  obtain ⟨s3, s4, s5, e3, e4, e5, ⟨⟨v3, q1⟩, q2, ⟨v4, q3⟩, q4, ⟨v5, q5⟩, q6⟩, q7, q8, q9⟩ := stA p7 er N ((p6 _ (by omega)).trans hr3') (by omega)
  have hfa : s5.heap[w.heap.size + 2]? = _ := (q8 _ (by omega)).trans p5
  -- the other
  obtain ⟨t1, t2, t3, f1, f2, f3, ⟨⟨v6, r1⟩, r2, ⟨v7, r3⟩, r4, ⟨v8, r5⟩, r6⟩, r7, r8, r9⟩ := stA hF0 er N hr3' (by omega)
  obtain ⟨t4, t5, f4, f5, ⟨⟨v9, u1⟩, u2, ⟨v10, u3⟩, u4⟩, u5, u6, u7⟩ := stS r9 ((r8 _ (by omega)).trans hr2') (by omega)
  have hfb : t5.heap[w.heap.size + 3]? = _ := (u6 _ (by omega)).trans r7
  have dS2 := (show DAt s2 (w.heap.size + 4) A9 n9 c9 fm gen o (.slice AR nr cr) from (p6 _ (by omega)).trans hD3).cells
  have dS5 := (show DAt s5 (w.heap.size + 4) A9 n9 c9 fm gen o (.slice AR nr cr) from (q8 _ (by omega)).trans ((p6 _ (by omega)).trans hD3)).cells
  have dT3 := (show DAt t3 (w.heap.size + 4) A9 n9 c9 fm gen o (.slice AR nr cr) from (r8 _ (by omega)).trans hD3).cells
  have dT5 := (show DAt t5 (w.heap.size + 4) A9 n9 c9 fm gen o (.slice AR nr cr) from (u6 _ (by omega)).trans ((r8 _ (by omega)).trans hD3)).cells
  obtain ⟨⟨a0, a1⟩, -, -, -, -, -, -, -, a9⟩ := dS2
  obtain ⟨⟨b0, b1⟩, -, -, -, -, -, -, -, b9⟩ := dS5
  obtain ⟨⟨c0', c1'⟩, -, -, -, -, -, -, -, c9'⟩ := dT3
  obtain ⟨⟨d0', d1'⟩, -, -, -, -, -, -, -, d9'⟩ := dT5
  obtain ⟨z0, z1, z2⟩ : s2.cell? ⟨w2.heap.size, 0, none⟩ = some (.int .i64 er) ∧ s2.cell? ⟨w2.heap.size, 1, none⟩ = some (.int .i64 N) ∧ s2.cell? ⟨w2.heap.size, 2, none⟩ = some (.slice AS ns cs) := by
    have hrs := (p6 w2.heap.size (by omega)).trans (show w3.drew.heap[w2.heap.size]? = _ from hrx)
    refine ⟨?_, ?_, ?_⟩ <;> (rw [cell_of_row _ _ _ _ _ _ hrs]; rfl)
  have HA := Lib.hid (And.intro hfa (And.intro q7 q9))
  have HC := Lib.hid (And.intro u5 (And.intro hfb u7))
  have HM := Lib.hid (And.intro hm9 (And.intro hmr hms))
  clear p5 p6 p7 q7 q8 q9 r7 r8 r9 u5 u6 u7 hfa hfb hF0 hD hD3 hS9 hRS hSS hgr hr2 hr3 hr2' hr3' hbw2 hrx hb3 hb3d hm9 hmr hms HB HH
  change w3.cell? _ = _ at p1 r1
  change w3.frozen? _ = _ at p2 r2
  go_wp2_with fail
  go_region
  all_goals (
    obtain ⟨k1, k2, k3⟩ := HA.out
    obtain ⟨j0, j1⟩ : s5.cell? ⟨w.heap.size + 2, 0, none⟩ = some (.slice A9 n9 c9) ∧ s5.cell? ⟨w.heap.size + 2, 1, none⟩ = some (.int .i64 fm) := by
      refine ⟨?_, ?_⟩ <;> (rw [cell_of_row _ _ _ _ _ _ k1]; rfl)
    obtain ⟨j2, j3, j4⟩ : s5.cell? ⟨w.heap.size + 3, 0, none⟩ = some (.int .i64 er) ∧ s5.cell? ⟨w.heap.size + 3, 1, none⟩ = some (.int .i64 N) ∧ s5.cell? ⟨w.heap.size + 3, 2, none⟩ = some (.slice AS ns cs) := by
      refine ⟨?_, ?_, ?_⟩ <;> (rw [cell_of_row _ _ _ _ _ _ k2]; rfl)
    go_wp2_with fail
    exact bodyPost_ret (v := .tuple #[.agg #[.slice A9 n9 c9, .int .i64 fm], .agg #[.int .i64 er, .int .i64 N, .slice AS ns cs], .slice AR nr cr]) (by simp [results, Try.results11, go_sem, j0, j1, j2, j3, j4]) rfl ⟨A9, n9, c9, F9, AR, nr, cr, RS, AS, ns, cs, SS, rfl, k3.1, HM.out.1, k3.2.1, HM.out.2.1, k3.2.2.1, HM.out.2.2, k3.2.2.2⟩)
end Go.Proofs.Ytdjgndnllaingaa.TrW
/-
  truth.delete: WHAT STANDS IN MEMORY AS IT GOES ON.
-/
namespace Go.Proofs.Ytdjgndnllaingaa.TrW
set_option linter.unusedVariables false
open Go.RowKit Go.Shelf LabM LbM LabW FrW TrM
theorem Comes.grown {α : Type} {W W' : World} {size : Nat} {encA : α → List Value} {okA : α → Prop} {A : Option Addr} {n c : Nat} {l : List α} (h : Comes W size encA okA A n c l) {k : Nat} {p : Nat → Bool}
    (hne : ∀ (x : α) (o : Nat) (j : Nat), p (o + j) = true → j < (encA x).length → (∀ j u, (encA x)[j]? = some u → W.cell? ⟨k, o + j, none⟩ = some u) → False) (hg : W.grownBy W' (some k)) (hk : ∀ j, p j = false → W'.cell? ⟨k, j, none⟩ = W.cell? ⟨k, j, none⟩) : Comes W' size encA okA A n c l := by
  refine ⟨h.len, h.le, h.cap, fun i x hi => ?_, h.ok⟩
  obtain ⟨b, o, hA, hb, hc⟩ := h.lies i x hi
  refine ⟨b, o, hA, Nat.lt_of_lt_of_le hb hg.size, fun j u hu => ?_⟩
  by_cases e : b = k
  · subst e
    cases hp : p (o + i * size + j) with
    | true => exact (hne x (o + i * size) j hp (List.getElem?_eq_some_iff.1 hu).1 (fun j u hj => hc j u hj)).elim
    | false => exact (hk _ hp).trans (hc j u hu)
  · exact (World.cell?_of_block (hg.block b hb (by simpa using fun e' => e e'))).trans (hc j u hu)
theorem DAt.same {w W : World} {d : Nat} {A A' : Option Addr} {n c n' c' : Nat} {f f' gen : Int} {o : OpH} {rv rv' : Value} (h : DAt w d A n c f gen o rv) (h' : DAt W d A' n' c' f' gen o rv') (j : Nat) (hj : pD j = false) : W.cell? ⟨d, j, none⟩ = w.cell? ⟨d, j, none⟩ := by
  rw [cell_of_row _ _ _ _ _ _ h', cell_of_row _ _ _ _ _ _ h]
  have h0 : j ≠ 0 ∧ j ≠ 1 ∧ j ≠ 10 := by
    refine ⟨fun e => ?_, fun e => ?_, fun e => ?_⟩ <;> (subst e; simp [pD] at hj)
  by_cases h11 : j < 11
  · rcases (by omega : j = 2 ∨ j = 3 ∨ j = 4 ∨ j = 5 ∨ j = 6 ∨ j = 7 ∨ j = 8 ∨ j = 9) with rfl | rfl | rfl | rfl | rfl | rfl | rfl | rfl <;> rfl
  · rw [Array.getElem?_eq_none (by show 11 ≤ j; omega), Array.getElem?_eq_none (by show 11 ≤ j; omega)]
theorem offD_mat {W : World} {d : Nat} {A0 : Option Addr} {n0 c0 : Nat} {f0 gen : Int} {o : OpH} {Ar : Option Addr} {nr cr : Nat} (h : DAt W d A0 n0 c0 f0 gen o (.slice Ar nr cr)) (x : Mat) (q j : Nat) (hp : pD (q + j) = true) (hj : j < (encM x).length) (hc : ∀ j u, (encM x)[j]? = some u → W.cell? ⟨d, q + j, none⟩ = some u) : False := by
  have h1 := hc 1 _ rfl
  have hj2 : j < 3 := hj
  rw [cell_of_row _ _ _ _ _ _ h] at h1
  rw [pD_iff] at hp
  have hq : q = 0 ∨ q = 1 ∨ q = 8 ∨ q = 9 ∨ q = 10 := by omega
  rcases hq with rfl | rfl | rfl | rfl | rfl <;> simp [dRow, hdV] at h1
/-- A series of the cloned row. -/
structure OwnD (w W : World) (x : SerH) : Prop where
  lab : Comes w 2 encL okL x.1.1.1 x.1.1.2.1 x.1.1.2.2 x.1.2
  sam : Comes w 2 encS okS x.2.1.1.1 x.2.1.1.2.1 x.2.1.1.2.2 x.2.1.2 ∨ (W.ownsRow (w.heap.size + 1) 51 2 (hdV x.2.1.1) x.2.1.1.2.1 (x.2.1.2.flatMap encS) ∧ ∀ y ∈ x.2.1.2, okS y)
  last : -9223372036854775808 ≤ x.2.2 ∧ x.2.2 ≤ 9223372036854775807
/-- Where delete stands. -/
structure DelW (w W : World) (d : Nat) (gen : Int) (o : OpH) (f : Int) (A : Option Addr) (n c : Nat) (a : Option Addr × Nat × Nat) (G : List SerH) (RS : List RecH) : Prop where
  fr : w.grownBy W (some d)
  dat : DAt W d A n c f gen o (hdV a)
  row : W.ownsRow (w.heap.size + 1) 48 3 (.slice A n c) n (G.flatMap encR)
  recs : W.ownsRow (w.heap.size + 1) 64 5 (hdV a) RS.length (RS.flatMap encC)
  okG : ∀ x ∈ G, OwnD w W x
  okRec : ∀ r ∈ RS, okC w r
  ans : W.heap[w.heap.size]? = some (.cells #[.int .i64 0, .int .i64 0, .slice none 0 0] 31 (0, 0))
section
variable {w W W' : World} {d : Nat} {gen : Int} {o : OpH} {f : Int} {A : Option Addr} {n c : Nat} {a : Option Addr × Nat × Nat} {G : List SerH} {RS : List RecH}
theorem OwnD.later {x : SerH} (h : OwnD w W x) (hk : ∀ k, (hdV x.2.1.1).ownBlock = some k → w.heap.size + 1 ≤ k → k < W.heap.size → W'.heap[k]? = W.heap[k]?) : OwnD w W' x := by
  refine ⟨h.lab, ?_, h.last⟩
  rcases h.sam with h1 | ⟨h1, h2⟩
  · exact .inl h1
  · exact .inr ⟨own_same h1 (fun k hk2 => hk k hk2 (own_lt' h1 k hk2).1 (own_lt' h1 k hk2).2), h2⟩
theorem DelW.later (h : DelW w W d gen o f A n c a G RS) (hb : Below W.heap.size W W') : DelW w W' d gen o f A n c a G RS :=
  ⟨⟨hb.os.trans h.fr.os, hb.tape.trans h.fr.tape, hb.output.trans h.fr.output, Nat.le_trans h.fr.size hb.size, fun k hk hne => (hb.block k (Nat.lt_of_lt_of_le hk h.fr.size)).trans (h.fr.block k hk hne)⟩, h.dat.later hb, own_later h.row hb, own_later h.recs hb, fun x hx => (h.okG x hx).later (fun k _ _ hk => hb.block k hk), h.okRec, (hb.block _ (Array.getElem?_eq_some_iff.1 h.ans).1).trans h.ans⟩
/-- The series of it, read in the world at hand. -/
theorem DelW.okR (h : DelW w W d gen o f A n c a G RS) {A0 : Option Addr} {n0 c0 : Nat} {f0 : Int} {a0 : Option Addr × Nat × Nat} (hd : DAt w d A0 n0 c0 f0 gen o (hdV a0)) {x : SerH} (hx : x ∈ G) : okR W x := by
  have hx := h.okG x hx
  obtain ⟨⟨⟨A1, n1, c1⟩, L⟩, ⟨⟨A2, n2, c2⟩, S⟩, T⟩ := x
  refine ⟨Comes.grown hx.lab (offD_lab hd) h.fr (DAt.same hd h.dat), ?_, hx.last⟩
  rcases hx.sam with h1 | ⟨h1, h2⟩
  · exact Comes.grown h1 (offD_sam hd) h.fr (DAt.same hd h.dat)
  · obtain ⟨A', c', hv, hn, hc⟩ := Comes.of_own h1 (fun _ => rfl) (by decide) h2
    injection hv with e1 e2 e3
    simp only [] at e1 e2 e3
    subst e1 e3
    exact hc
theorem DelW.okO (h : DelW w W d gen o f A n c a G RS) {A0 : Option Addr} {n0 c0 : Nat} {f0 : Int} {a0 : Option Addr × Nat × Nat} (hd : DAt w d A0 n0 c0 f0 gen o (hdV a0)) (ho : OkO w o) : OkO W o :=
  ⟨Comes.grown ho.ls (offD_lab hd) h.fr (DAt.same hd h.dat), ho.few, Comes.grown ho.ms (offD_mat hd) h.fr (DAt.same hd h.dat), ho.fewm, ho.t, ho.te, ho.v⟩
end
end Go.Proofs.Ytdjgndnllaingaa.TrW
