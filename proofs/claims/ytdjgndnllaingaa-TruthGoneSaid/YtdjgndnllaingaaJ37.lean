/-
  truth.Do OF ONE KIND: THE WALK. (Printed by gen/trdo.py.)
  truth.Do OF ONE KIND: THE WALK. (Printed by gen/trdo.py.)
  truth.Do OF ONE KIND: THE WALK. (Printed by gen/trdo.py.)
-/
import Derived.Test.YtdjgndnllaingaaJ34
import Derived.Test.YtdjgndnllaingaaJ36
import Derived.Deep.RegionLaw
/-
  truth.Do OF ONE KIND: THE WALK. (Printed by gen/trdo.py.)
-/
namespace Go.Proofs.Ytdjgndnllaingaa.TrW
set_option linter.unusedVariables false
open Go.RowKit Go.Shelf LabM LbM LabW FrW TrM
set_option maxRecDepth 20000 in
set_option maxHeartbeats 8000000 in
theorem do_1 (A : Option Addr) (n c : Nat) (hs : List SerH) (f gen : Int) (o : OpH) (w : World) (hst : StV w A n c hs f) (ho : OkO w o) (hk : o.kd = 1) :
    Calls Try.prog 11 #[.agg #[.slice A n c, .int .i64 f], .agg #[.int .i64 1, hdV o.ls.1, hdV o.ms.1, .int .i64 o.t, .int .i64 o.te, .int .u64 o.v, .int .i64 o.g], .int .i64 gen] w (Done (doM (hs.map absR, f) (absO o) gen) w) := by
  obtain ⟨Wa, Wb, Wc, Wd, We, ha, hb, hc, hdd, he, za, zb, zc, zd, ⟨rst, rop⟩, hB⟩ := DoB.new w A n c f gen o
  have KM := Lib.hid (delete_do (w.heap.size + 4) A n c hs f gen o We hB.d (hst.later hB.below) (ho.later hB.below) hk)
  have hop1 := hB.op
  unfold opRow at hb rop hop1
  unfold dRow at he
  rw [hk] at hb rop hop1 he
  obtain ⟨x0, x1⟩ : Wd.cell? ⟨w.heap.size, 0, none⟩ = some (.slice A n c) ∧ Wd.cell? ⟨w.heap.size, 1, none⟩ = some (.int .i64 f) := by
    refine ⟨?_, ?_⟩ <;> (rw [cell_of_row _ _ _ _ _ _ rst]; rfl)
  obtain ⟨y0, y1, y2, y3, y4, y5, y6⟩ : Wd.cell? ⟨w.heap.size + 1, 0, none⟩ = some (.int .i64 1) ∧ Wd.cell? ⟨w.heap.size + 1, 1, none⟩ = some (hdV o.ls.1) ∧ Wd.cell? ⟨w.heap.size + 1, 2, none⟩ = some (hdV o.ms.1) ∧ Wd.cell? ⟨w.heap.size + 1, 3, none⟩ = some (.int .i64 o.t) ∧ Wd.cell? ⟨w.heap.size + 1, 4, none⟩ = some (.int .i64 o.te) ∧ Wd.cell? ⟨w.heap.size + 1, 5, none⟩ = some (.int .u64 o.v) ∧ Wd.cell? ⟨w.heap.size + 1, 6, none⟩ = some (.int .i64 o.g) := by
    refine ⟨?_, ?_, ?_, ?_, ?_, ?_, ?_⟩ <;> (rw [cell_of_row _ _ _ _ _ _ rop]; rfl)
  have g0 : We.cell? ⟨w.heap.size + 1, 0, none⟩ = some (.int .i64 1) := by rw [cell_of_row _ _ _ _ _ _ hop1]; rfl
  have HB := Lib.hid hB
  have HH := Lib.hid (And.intro hst ho)
  generalize doM (hs.map absR, f) (absO o) gen = res at *
  obtain ⟨⟨sm, fm⟩, ⟨er, N, sa⟩, rl⟩ := res
  unfold hdV at y1 y2 hb he
  show Calls Try.prog 11 #[.agg #[.slice A n c, .int .i64 f], .agg #[.int .i64 1, .slice o.ls.1.1 o.ls.1.2.1 o.ls.1.2.2, .slice o.ms.1.1 o.ms.1.2.1 o.ms.1.2.2, .int .i64 o.t, .int .i64 o.te, .int .u64 o.v, .int .i64 o.g], .int .i64 gen] w _
  clear hst ho hB rst rop hop1
  go_enter Try.func11, Try.ntmps11
  go_wp2_with fail
  refine KM.out.mono ?_
  rintro e w2 ⟨A9, n9, c9, F9, AR, nr, cr, RS, AS, ns, cs, SS, rfl, hD, hS9, hm9, hRS, hmr, hSS, hms, hgr⟩
  simp only [] at hD hS9 hm9 hmr hms ⊢
  clear x0 x1 y0 y1 y2 y3 y4 y5 y6 g0 ha hb hc hdd he za zb zc zd KM
  obtain ⟨w3, h3⟩ : ∃ w3, w2.alloc (.cells #[.int .i64 er, .int .i64 N, .slice AS ns cs] 31 (0, 0)) = w3 := ⟨_, rfl⟩
  have hb3 : Below w2.heap.size w2 w3 := by rw [← h3]; exact (Below.refl _ _).alloc (Nat.le_refl _) _
  have hb3d : Below w2.heap.size w2 w3.drew := ⟨hb3.os, hb3.tape, hb3.output, hb3.size, hb3.block⟩
  have hrx : w3.heap[w2.heap.size]? = some (.cells #[.int .i64 er, .int .i64 N, .slice AS ns cs] 31 (0, 0)) := by rw [← h3]; exact heap_alloc_new w2 _
  have hz2 := hgr.size
  have hze := HB.out.size
  have hr2 := (hgr.block (w.heap.size + 2) (by omega) (by simp)).trans HB.out.rs
  have hr3 := (hgr.block (w.heap.size + 3) (by omega) (by simp)).trans HB.out.ra
  have hbw2 : Below w.heap.size w w2 := ⟨hgr.os.trans HB.out.below.os, hgr.tape.trans HB.out.below.tape, hgr.output.trans HB.out.below.output, Nat.le_trans HB.out.below.size hz2, fun k hk => (hgr.block k (by omega) (by simp; omega)).trans (HB.out.below.block k hk)⟩
  have hF0 : DoF w w3.drew A9 n9 c9 F9 fm AR nr cr RS AS ns cs SS := ⟨hS9.later hb3d, hRS.later hb3d, hSS.later hb3d, later hbw2 hb3d⟩
  have hr2' := (hb3d.block _ (by omega)).trans hr2
  have hr3' := (hb3d.block _ (by omega)).trans hr3
  have hD3 := hD.later hb3
  obtain ⟨⟨x0, x1⟩, -, -, -, -, -, -, -, x9⟩ := hD3.cells
  obtain ⟨y0, y1, y2⟩ : w3.cell? ⟨w2.heap.size, 0, none⟩ = some (.int .i64 er) ∧ w3.cell? ⟨w2.heap.size, 1, none⟩ = some (.int .i64 N) ∧ w3.cell? ⟨w2.heap.size, 2, none⟩ = some (.slice AS ns cs) := by
    refine ⟨?_, ?_, ?_⟩ <;> (rw [cell_of_row _ _ _ _ _ _ hrx]; rfl)
  -- one order
  obtain ⟨s1, s2, e1, e2, ⟨⟨v1, p1⟩, p2, ⟨v2, p3⟩, p4⟩, p5, p6, p7⟩ := stS hF0 hr2' (by omega)
  obtain ⟨s3, s4, s5, e3, e4, e5, ⟨⟨v3, q1⟩, q2, ⟨v4, q3⟩, q4, ⟨v5, q5⟩, q6⟩, q7, q8, q9⟩ := stA p7 er N ((p6 _ (by omega)).trans hr3') (by omega)
  have hfa : s5.heap[w.heap.size + 2]? = _ := (q8 _ (by omega)).trans p5
  -- the other
  obtain ⟨t1, t2, t3, f1, f2, f3, ⟨⟨v6, r1⟩, r2, ⟨v7, r3⟩, r4, ⟨v8, r5⟩, r6⟩, r7, r8, r9⟩ := stA hF0 er N hr3' (by omega)
  obtain ⟨t4, t5, f4, f5, ⟨⟨v9, u1⟩, u2, ⟨v10, u3⟩, u4⟩, u5, u6, u7⟩ := stS r9 ((r8 _ (by omega)).trans hr2') (by omega)
  have hfb : t5.heap[w.heap.size + 3]? = _ := (u6 _ (by omega)).trans r7
  have dS2 := (show DAt s2 (w.heap.size + 4) A9 n9 c9 fm gen o (.slice AR nr cr) from (p6 _ (by omega)).trans hD3).cells
  have dS5 := (show DAt s5 (w.heap.size + 4) A9 n9 c9 fm gen o (.slice AR nr cr) from (q8 _ (by omega)).trans ((p6 _ (by omega)).trans hD3)).cells
  have dT3 := (show DAt t3 (w.heap.size + 4) A9 n9 c9 fm gen o (.slice AR nr cr) from (r8 _ (by omega)).trans hD3).cells
  have dT5 := (show DAt t5 (w.heap.size + 4) A9 n9 c9 fm gen o (.slice AR nr cr) from (u6 _ (by omega)).trans ((r8 _ (by omega)).trans hD3)).cells
  obtain ⟨⟨a0, a1⟩, -, -, -, -, -, -, -, a9⟩ := dS2
  obtain ⟨⟨b0, b1⟩, -, -, -, -, -, -, -, b9⟩ := dS5
  obtain ⟨⟨c0', c1'⟩, -, -, -, -, -, -, -, c9'⟩ := dT3
  obtain ⟨⟨d0', d1'⟩, -, -, -, -, -, -, -, d9'⟩ := dT5
  obtain ⟨z0, z1, z2⟩ : s2.cell? ⟨w2.heap.size, 0, none⟩ = some (.int .i64 er) ∧ s2.cell? ⟨w2.heap.size, 1, none⟩ = some (.int .i64 N) ∧ s2.cell? ⟨w2.heap.size, 2, none⟩ = some (.slice AS ns cs) := by
    have hrs := (p6 w2.heap.size (by omega)).trans (show w3.drew.heap[w2.heap.size]? = _ from hrx)
    refine ⟨?_, ?_, ?_⟩ <;> (rw [cell_of_row _ _ _ _ _ _ hrs]; rfl)
  have HA := Lib.hid (And.intro hfa (And.intro q7 q9))
  have HC := Lib.hid (And.intro u5 (And.intro hfb u7))
  have HM := Lib.hid (And.intro hm9 (And.intro hmr hms))
  clear p5 p6 p7 q7 q8 q9 r7 r8 r9 u5 u6 u7 hfa hfb hF0 hD hD3 hS9 hRS hSS hgr hr2 hr3 hr2' hr3' hbw2 hrx hb3 hb3d hm9 hmr hms HB HH
  change w3.cell? _ = _ at p1 r1
  change w3.frozen? _ = _ at p2 r2
  go_wp2_with fail
  go_region
  all_goals (
    obtain ⟨k1, k2, k3⟩ := HA.out
    obtain ⟨j0, j1⟩ : s5.cell? ⟨w.heap.size + 2, 0, none⟩ = some (.slice A9 n9 c9) ∧ s5.cell? ⟨w.heap.size + 2, 1, none⟩ = some (.int .i64 fm) := by
      refine ⟨?_, ?_⟩ <;> (rw [cell_of_row _ _ _ _ _ _ k1]; rfl)
    obtain ⟨j2, j3, j4⟩ : s5.cell? ⟨w.heap.size + 3, 0, none⟩ = some (.int .i64 er) ∧ s5.cell? ⟨w.heap.size + 3, 1, none⟩ = some (.int .i64 N) ∧ s5.cell? ⟨w.heap.size + 3, 2, none⟩ = some (.slice AS ns cs) := by
      refine ⟨?_, ?_, ?_⟩ <;> (rw [cell_of_row _ _ _ _ _ _ k2]; rfl)
    go_wp2_with fail
    exact bodyPost_ret (v := .tuple #[.agg #[.slice A9 n9 c9, .int .i64 fm], .agg #[.int .i64 er, .int .i64 N, .slice AS ns cs], .slice AR nr cr]) (by simp [results, Try.results11, go_sem, j0, j1, j2, j3, j4]) rfl ⟨A9, n9, c9, F9, AR, nr, cr, RS, AS, ns, cs, SS, rfl, k3.1, HM.out.1, k3.2.1, HM.out.2.1, k3.2.2.1, HM.out.2.2, k3.2.2.2⟩)
end Go.Proofs.Ytdjgndnllaingaa.TrW
/-
  truth.Do OF ONE KIND: THE WALK. (Printed by gen/trdo.py.)
-/
namespace Go.Proofs.Ytdjgndnllaingaa.TrW
set_option linter.unusedVariables false
open Go.RowKit Go.Shelf LabM LbM LabW FrW TrM
set_option maxRecDepth 20000 in
set_option maxHeartbeats 8000000 in
theorem do_2 (A : Option Addr) (n c : Nat) (hs : List SerH) (f gen : Int) (o : OpH) (w : World) (hst : StV w A n c hs f) (ho : OkO w o) (hk : o.kd = 2) :
    Calls Try.prog 11 #[.agg #[.slice A n c, .int .i64 f], .agg #[.int .i64 2, hdV o.ls.1, hdV o.ms.1, .int .i64 o.t, .int .i64 o.te, .int .u64 o.v, .int .i64 o.g], .int .i64 gen] w (Done (doM (hs.map absR, f) (absO o) gen) w) := by
  obtain ⟨Wa, Wb, Wc, Wd, We, ha, hb, hc, hdd, he, za, zb, zc, zd, ⟨rst, rop⟩, hB⟩ := DoB.new w A n c f gen o
  have KM := Lib.hid (keep_do (w.heap.size + 4) A n c hs f gen o We hB.d (hst.later hB.below) (ho.later hB.below) hk)
  have hop1 := hB.op
  unfold opRow at hb rop hop1
  unfold dRow at he
  rw [hk] at hb rop hop1 he
  obtain ⟨x0, x1⟩ : Wd.cell? ⟨w.heap.size, 0, none⟩ = some (.slice A n c) ∧ Wd.cell? ⟨w.heap.size, 1, none⟩ = some (.int .i64 f) := by
    refine ⟨?_, ?_⟩ <;> (rw [cell_of_row _ _ _ _ _ _ rst]; rfl)
  obtain ⟨y0, y1, y2, y3, y4, y5, y6⟩ : Wd.cell? ⟨w.heap.size + 1, 0, none⟩ = some (.int .i64 2) ∧ Wd.cell? ⟨w.heap.size + 1, 1, none⟩ = some (hdV o.ls.1) ∧ Wd.cell? ⟨w.heap.size + 1, 2, none⟩ = some (hdV o.ms.1) ∧ Wd.cell? ⟨w.heap.size + 1, 3, none⟩ = some (.int .i64 o.t) ∧ Wd.cell? ⟨w.heap.size + 1, 4, none⟩ = some (.int .i64 o.te) ∧ Wd.cell? ⟨w.heap.size + 1, 5, none⟩ = some (.int .u64 o.v) ∧ Wd.cell? ⟨w.heap.size + 1, 6, none⟩ = some (.int .i64 o.g) := by
    refine ⟨?_, ?_, ?_, ?_, ?_, ?_, ?_⟩ <;> (rw [cell_of_row _ _ _ _ _ _ rop]; rfl)
  have g0 : We.cell? ⟨w.heap.size + 1, 0, none⟩ = some (.int .i64 2) := by rw [cell_of_row _ _ _ _ _ _ hop1]; rfl
  have HB := Lib.hid hB
  have HH := Lib.hid (And.intro hst ho)
  generalize doM (hs.map absR, f) (absO o) gen = res at *
  obtain ⟨⟨sm, fm⟩, ⟨er, N, sa⟩, rl⟩ := res
  unfold hdV at y1 y2 hb he
  show Calls Try.prog 11 #[.agg #[.slice A n c, .int .i64 f], .agg #[.int .i64 2, .slice o.ls.1.1 o.ls.1.2.1 o.ls.1.2.2, .slice o.ms.1.1 o.ms.1.2.1 o.ms.1.2.2, .int .i64 o.t, .int .i64 o.te, .int .u64 o.v, .int .i64 o.g], .int .i64 gen] w _
  clear hst ho hB rst rop hop1
  go_enter Try.func11, Try.ntmps11
  go_wp2_with fail
  refine KM.out.mono ?_
  rintro e w2 ⟨A9, n9, c9, F9, AR, nr, cr, RS, AS, ns, cs, SS, rfl, hD, hS9, hm9, hRS, hmr, hSS, hms, hgr⟩
  simp only [] at hD hS9 hm9 hmr hms ⊢
  clear x0 x1 y0 y1 y2 y3 y4 y5 y6 g0 ha hb hc hdd he za zb zc zd KM
  obtain ⟨w3, h3⟩ : ∃ w3, w2.alloc (.cells #[.int .i64 er, .int .i64 N, .slice AS ns cs] 31 (0, 0)) = w3 := ⟨_, rfl⟩
  have hb3 : Below w2.heap.size w2 w3 := by rw [← h3]; exact (Below.refl _ _).alloc (Nat.le_refl _) _
  have hb3d : Below w2.heap.size w2 w3.drew := ⟨hb3.os, hb3.tape, hb3.output, hb3.size, hb3.block⟩
  have hrx : w3.heap[w2.heap.size]? = some (.cells #[.int .i64 er, .int .i64 N, .slice AS ns cs] 31 (0, 0)) := by rw [← h3]; exact heap_alloc_new w2 _
  have hz2 := hgr.size
  have hze := HB.out.size
  have hr2 := (hgr.block (w.heap.size + 2) (by omega) (by simp)).trans HB.out.rs
  have hr3 := (hgr.block (w.heap.size + 3) (by omega) (by simp)).trans HB.out.ra
  have hbw2 : Below w.heap.size w w2 := ⟨hgr.os.trans HB.out.below.os, hgr.tape.trans HB.out.below.tape, hgr.output.trans HB.out.below.output, Nat.le_trans HB.out.below.size hz2, fun k hk => (hgr.block k (by omega) (by simp; omega)).trans (HB.out.below.block k hk)⟩
  have hF0 : DoF w w3.drew A9 n9 c9 F9 fm AR nr cr RS AS ns cs SS := ⟨hS9.later hb3d, hRS.later hb3d, hSS.later hb3d, later hbw2 hb3d⟩
  have hr2' := (hb3d.block _ (by omega)).trans hr2
  have hr3' := (hb3d.block _ (by omega)).trans hr3
  have hD3 := hD.later hb3
  obtain ⟨⟨x0, x1⟩, -, -, -, -, -, -, -, x9⟩ := hD3.cells
  obtain ⟨y0, y1, y2⟩ : w3.cell? ⟨w2.heap.size, 0, none⟩ = some (.int .i64 er) ∧ w3.cell? ⟨w2.heap.size, 1, none⟩ = some (.int .i64 N) ∧ w3.cell? ⟨w2.heap.size, 2, none⟩ = some (.slice AS ns cs) := by
    refine ⟨?_, ?_, ?_⟩ <;> (rw [cell_of_row _ _ _ _ _ _ hrx]; rfl)
  -- one order
  obtain ⟨s1, s2, e1, e2, ⟨⟨v1, p1⟩, p2, ⟨v2, p3⟩, p4⟩, p5, p6, p7⟩ := stS hF0 hr2' (by omega)
  obtain ⟨s3, s4, s5, e3, e4, e5, ⟨⟨v3, q1⟩, q2, ⟨v4, q3⟩, q4, ⟨v5, q5⟩, q6⟩, q7, q8, q9⟩ := stA p7 er N ((p6 _ (by omega)).trans hr3') (by omega)
  have hfa : s5.heap[w.heap.size + 2]? = _ := (q8 _ (by omega)).trans p5
  -- the other
  obtain ⟨t1, t2, t3, f1, f2, f3, ⟨⟨v6, r1⟩, r2, ⟨v7, r3⟩, r4, ⟨v8, r5⟩, r6⟩, r7, r8, r9⟩ := stA hF0 er N hr3' (by omega)
  obtain ⟨t4, t5, f4, f5, ⟨⟨v9, u1⟩, u2, ⟨v10, u3⟩, u4⟩, u5, u6, u7⟩ := stS r9 ((r8 _ (by omega)).trans hr2') (by omega)
  have hfb : t5.heap[w.heap.size + 3]? = _ := (u6 _ (by omega)).trans r7
  have dS2 := (show DAt s2 (w.heap.size + 4) A9 n9 c9 fm gen o (.slice AR nr cr) from (p6 _ (by omega)).trans hD3).cells
  have dS5 := (show DAt s5 (w.heap.size + 4) A9 n9 c9 fm gen o (.slice AR nr cr) from (q8 _ (by omega)).trans ((p6 _ (by omega)).trans hD3)).cells
  have dT3 := (show DAt t3 (w.heap.size + 4) A9 n9 c9 fm gen o (.slice AR nr cr) from (r8 _ (by omega)).trans hD3).cells
  have dT5 := (show DAt t5 (w.heap.size + 4) A9 n9 c9 fm gen o (.slice AR nr cr) from (u6 _ (by omega)).trans ((r8 _ (by omega)).trans hD3)).cells
  obtain ⟨⟨a0, a1⟩, -, -, -, -, -, -, -, a9⟩ := dS2
  obtain ⟨⟨b0, b1⟩, -, -, -, -, -, -, -, b9⟩ := dS5
  obtain ⟨⟨c0', c1'⟩, -, -, -, -, -, -, -, c9'⟩ := dT3
  obtain ⟨⟨d0', d1'⟩, -, -, -, -, -, -, -, d9'⟩ := dT5
  obtain ⟨z0, z1, z2⟩ : s2.cell? ⟨w2.heap.size, 0, none⟩ = some (.int .i64 er) ∧ s2.cell? ⟨w2.heap.size, 1, none⟩ = some (.int .i64 N) ∧ s2.cell? ⟨w2.heap.size, 2, none⟩ = some (.slice AS ns cs) := by
    have hrs := (p6 w2.heap.size (by omega)).trans (show w3.drew.heap[w2.heap.size]? = _ from hrx)
    refine ⟨?_, ?_, ?_⟩ <;> (rw [cell_of_row _ _ _ _ _ _ hrs]; rfl)
  have HA := Lib.hid (And.intro hfa (And.intro q7 q9))
  have HC := Lib.hid (And.intro u5 (And.intro hfb u7))
  have HM := Lib.hid (And.intro hm9 (And.intro hmr hms))
  clear p5 p6 p7 q7 q8 q9 r7 r8 r9 u5 u6 u7 hfa hfb hF0 hD hD3 hS9 hRS hSS hgr hr2 hr3 hr2' hr3' hbw2 hrx hb3 hb3d hm9 hmr hms HB HH
  change w3.cell? _ = _ at p1 r1
  change w3.frozen? _ = _ at p2 r2
  go_wp2_with fail
  go_region
  all_goals (
    obtain ⟨k1, k2, k3⟩ := HA.out
    obtain ⟨j0, j1⟩ : s5.cell? ⟨w.heap.size + 2, 0, none⟩ = some (.slice A9 n9 c9) ∧ s5.cell? ⟨w.heap.size + 2, 1, none⟩ = some (.int .i64 fm) := by
      refine ⟨?_, ?_⟩ <;> (rw [cell_of_row _ _ _ _ _ _ k1]; rfl)
    obtain ⟨j2, j3, j4⟩ : s5.cell? ⟨w.heap.size + 3, 0, none⟩ = some (.int .i64 er) ∧ s5.cell? ⟨w.heap.size + 3, 1, none⟩ = some (.int .i64 N) ∧ s5.cell? ⟨w.heap.size + 3, 2, none⟩ = some (.slice AS ns cs) := by
      refine ⟨?_, ?_, ?_⟩ <;> (rw [cell_of_row _ _ _ _ _ _ k2]; rfl)
    go_wp2_with fail
    exact bodyPost_ret (v := .tuple #[.agg #[.slice A9 n9 c9, .int .i64 fm], .agg #[.int .i64 er, .int .i64 N, .slice AS ns cs], .slice AR nr cr]) (by simp [results, Try.results11, go_sem, j0, j1, j2, j3, j4]) rfl ⟨A9, n9, c9, F9, AR, nr, cr, RS, AS, ns, cs, SS, rfl, k3.1, HM.out.1, k3.2.1, HM.out.2.1, k3.2.2.1, HM.out.2.2, k3.2.2.2⟩)
end Go.Proofs.Ytdjgndnllaingaa.TrW
/-
  truth.Do OF ONE KIND: THE WALK. (Printed by gen/trdo.py.)
-/
namespace Go.Proofs.Ytdjgndnllaingaa.TrW
set_option linter.unusedVariables false
open Go.RowKit Go.Shelf LabM LbM LabW FrW TrM
set_option maxRecDepth 20000 in
set_option maxHeartbeats 8000000 in
theorem do_3 (A : Option Addr) (n c : Nat) (hs : List SerH) (f gen : Int) (o : OpH) (w : World) (hst : StV w A n c hs f) (ho : OkO w o) (hk : o.kd = 3) :
    Calls Try.prog 11 #[.agg #[.slice A n c, .int .i64 f], .agg #[.int .i64 3, hdV o.ls.1, hdV o.ms.1, .int .i64 o.t, .int .i64 o.te, .int .u64 o.v, .int .i64 o.g], .int .i64 gen] w (Done (doM (hs.map absR, f) (absO o) gen) w) := by
  obtain ⟨Wa, Wb, Wc, Wd, We, ha, hb, hc, hdd, he, za, zb, zc, zd, ⟨rst, rop⟩, hB⟩ := DoB.new w A n c f gen o
  have KM := Lib.hid (ask_do (w.heap.size + 4) A n c hs f gen o We hB.d (hst.later hB.below) (ho.later hB.below) hk)
  have hop1 := hB.op
  unfold opRow at hb rop hop1
  unfold dRow at he
  rw [hk] at hb rop hop1 he
  obtain ⟨x0, x1⟩ : Wd.cell? ⟨w.heap.size, 0, none⟩ = some (.slice A n c) ∧ Wd.cell? ⟨w.heap.size, 1, none⟩ = some (.int .i64 f) := by
    refine ⟨?_, ?_⟩ <;> (rw [cell_of_row _ _ _ _ _ _ rst]; rfl)
  obtain ⟨y0, y1, y2, y3, y4, y5, y6⟩ : Wd.cell? ⟨w.heap.size + 1, 0, none⟩ = some (.int .i64 3) ∧ Wd.cell? ⟨w.heap.size + 1, 1, none⟩ = some (hdV o.ls.1) ∧ Wd.cell? ⟨w.heap.size + 1, 2, none⟩ = some (hdV o.ms.1) ∧ Wd.cell? ⟨w.heap.size + 1, 3, none⟩ = some (.int .i64 o.t) ∧ Wd.cell? ⟨w.heap.size + 1, 4, none⟩ = some (.int .i64 o.te) ∧ Wd.cell? ⟨w.heap.size + 1, 5, none⟩ = some (.int .u64 o.v) ∧ Wd.cell? ⟨w.heap.size + 1, 6, none⟩ = some (.int .i64 o.g) := by
    refine ⟨?_, ?_, ?_, ?_, ?_, ?_, ?_⟩ <;> (rw [cell_of_row _ _ _ _ _ _ rop]; rfl)
  have g0 : We.cell? ⟨w.heap.size + 1, 0, none⟩ = some (.int .i64 3) := by rw [cell_of_row _ _ _ _ _ _ hop1]; rfl
  have HB := Lib.hid hB
  have HH := Lib.hid (And.intro hst ho)
  generalize doM (hs.map absR, f) (absO o) gen = res at *
  obtain ⟨⟨sm, fm⟩, ⟨er, N, sa⟩, rl⟩ := res
  unfold hdV at y1 y2 hb he
  show Calls Try.prog 11 #[.agg #[.slice A n c, .int .i64 f], .agg #[.int .i64 3, .slice o.ls.1.1 o.ls.1.2.1 o.ls.1.2.2, .slice o.ms.1.1 o.ms.1.2.1 o.ms.1.2.2, .int .i64 o.t, .int .i64 o.te, .int .u64 o.v, .int .i64 o.g], .int .i64 gen] w _
  clear hst ho hB rst rop hop1
  go_enter Try.func11, Try.ntmps11
  go_wp2_with fail
  refine KM.out.mono ?_
  rintro e w2 ⟨A9, n9, c9, F9, AR, nr, cr, RS, AS, ns, cs, SS, rfl, hD, hS9, hm9, hRS, hmr, hSS, hms, hgr⟩
  simp only [] at hD hS9 hm9 hmr hms ⊢
  clear x0 x1 y0 y1 y2 y3 y4 y5 y6 g0 ha hb hc hdd he za zb zc zd KM
  obtain ⟨w3, h3⟩ : ∃ w3, w2.alloc (.cells #[.int .i64 er, .int .i64 N, .slice AS ns cs] 31 (0, 0)) = w3 := ⟨_, rfl⟩
  have hb3 : Below w2.heap.size w2 w3 := by rw [← h3]; exact (Below.refl _ _).alloc (Nat.le_refl _) _
  have hb3d : Below w2.heap.size w2 w3.drew := ⟨hb3.os, hb3.tape, hb3.output, hb3.size, hb3.block⟩
  have hrx : w3.heap[w2.heap.size]? = some (.cells #[.int .i64 er, .int .i64 N, .slice AS ns cs] 31 (0, 0)) := by rw [← h3]; exact heap_alloc_new w2 _
  have hz2 := hgr.size
  have hze := HB.out.size
  have hr2 := (hgr.block (w.heap.size + 2) (by omega) (by simp)).trans HB.out.rs
  have hr3 := (hgr.block (w.heap.size + 3) (by omega) (by simp)).trans HB.out.ra
  have hbw2 : Below w.heap.size w w2 := ⟨hgr.os.trans HB.out.below.os, hgr.tape.trans HB.out.below.tape, hgr.output.trans HB.out.below.output, Nat.le_trans HB.out.below.size hz2, fun k hk => (hgr.block k (by omega) (by simp; omega)).trans (HB.out.below.block k hk)⟩
  have hF0 : DoF w w3.drew A9 n9 c9 F9 fm AR nr cr RS AS ns cs SS := ⟨hS9.later hb3d, hRS.later hb3d, hSS.later hb3d, later hbw2 hb3d⟩
  have hr2' := (hb3d.block _ (by omega)).trans hr2
  have hr3' := (hb3d.block _ (by omega)).trans hr3
  have hD3 := hD.later hb3
  obtain ⟨⟨x0, x1⟩, -, -, -, -, -, -, -, x9⟩ := hD3.cells
  obtain ⟨y0, y1, y2⟩ : w3.cell? ⟨w2.heap.size, 0, none⟩ = some (.int .i64 er) ∧ w3.cell? ⟨w2.heap.size, 1, none⟩ = some (.int .i64 N) ∧ w3.cell? ⟨w2.heap.size, 2, none⟩ = some (.slice AS ns cs) := by
    refine ⟨?_, ?_, ?_⟩ <;> (rw [cell_of_row _ _ _ _ _ _ hrx]; rfl)
  -- one order
  obtain ⟨s1, s2, e1, e2, ⟨⟨v1, p1⟩, p2, ⟨v2, p3⟩, p4⟩, p5, p6, p7⟩ := stS hF0 hr2' (by omega)
  obtain ⟨s3, s4, s5, e3, e4, e5, ⟨⟨v3, q1⟩, q2, ⟨v4, q3⟩, q4, ⟨v5, q5⟩, q6⟩, q7, q8, q9⟩ := stA p7 er N ((p6 _ (by omega)).trans hr3') (by omega)
  have hfa : s5.heap[w.heap.size + 2]? = _ := (q8 _ (by omega)).trans p5
  -- the other
  obtain ⟨t1, t2, t3, f1, f2, f3, ⟨⟨v6, r1⟩, r2, ⟨v7, r3⟩, r4, ⟨v8, r5⟩, r6⟩, r7, r8, r9⟩ := stA hF0 er N hr3' (by omega)
  obtain ⟨t4, t5, f4, f5, ⟨⟨v9, u1⟩, u2, ⟨v10, u3⟩, u4⟩, u5, u6, u7⟩ := stS r9 ((r8 _ (by omega)).trans hr2') (by omega)
  have hfb : t5.heap[w.heap.size + 3]? = _ := (u6 _ (by omega)).trans r7
  have dS2 := (show DAt s2 (w.heap.size + 4) A9 n9 c9 fm gen o (.slice AR nr cr) from (p6 _ (by omega)).trans hD3).cells
  have dS5 := (show DAt s5 (w.heap.size + 4) A9 n9 c9 fm gen o (.slice AR nr cr) from (q8 _ (by omega)).trans ((p6 _ (by omega)).trans hD3)).cells
  have dT3 := (show DAt t3 (w.heap.size + 4) A9 n9 c9 fm gen o (.slice AR nr cr) from (r8 _ (by omega)).trans hD3).cells
  have dT5 := (show DAt t5 (w.heap.size + 4) A9 n9 c9 fm gen o (.slice AR nr cr) from (u6 _ (by omega)).trans ((r8 _ (by omega)).trans hD3)).cells
  obtain ⟨⟨a0, a1⟩, -, -, -, -, -, -, -, a9⟩ := dS2
  obtain ⟨⟨b0, b1⟩, -, -, -, -, -, -, -, b9⟩ := dS5
  obtain ⟨⟨c0', c1'⟩, -, -, -, -, -, -, -, c9'⟩ := dT3
  obtain ⟨⟨d0', d1'⟩, -, -, -, -, -, -, -, d9'⟩ := dT5
  obtain ⟨z0, z1, z2⟩ : s2.cell? ⟨w2.heap.size, 0, none⟩ = some (.int .i64 er) ∧ s2.cell? ⟨w2.heap.size, 1, none⟩ = some (.int .i64 N) ∧ s2.cell? ⟨w2.heap.size, 2, none⟩ = some (.slice AS ns cs) := by
    have hrs := (p6 w2.heap.size (by omega)).trans (show w3.drew.heap[w2.heap.size]? = _ from hrx)
    refine ⟨?_, ?_, ?_⟩ <;> (rw [cell_of_row _ _ _ _ _ _ hrs]; rfl)
  have HA := Lib.hid (And.intro hfa (And.intro q7 q9))
  have HC := Lib.hid (And.intro u5 (And.intro hfb u7))
  have HM := Lib.hid (And.intro hm9 (And.intro hmr hms))
  clear p5 p6 p7 q7 q8 q9 r7 r8 r9 u5 u6 u7 hfa hfb hF0 hD hD3 hS9 hRS hSS hgr hr2 hr3 hr2' hr3' hbw2 hrx hb3 hb3d hm9 hmr hms HB HH
  change w3.cell? _ = _ at p1 r1
  change w3.frozen? _ = _ at p2 r2
  go_wp2_with fail
  go_region
  all_goals (
    obtain ⟨k1, k2, k3⟩ := HA.out
    obtain ⟨j0, j1⟩ : s5.cell? ⟨w.heap.size + 2, 0, none⟩ = some (.slice A9 n9 c9) ∧ s5.cell? ⟨w.heap.size + 2, 1, none⟩ = some (.int .i64 fm) := by
      refine ⟨?_, ?_⟩ <;> (rw [cell_of_row _ _ _ _ _ _ k1]; rfl)
    obtain ⟨j2, j3, j4⟩ : s5.cell? ⟨w.heap.size + 3, 0, none⟩ = some (.int .i64 er) ∧ s5.cell? ⟨w.heap.size + 3, 1, none⟩ = some (.int .i64 N) ∧ s5.cell? ⟨w.heap.size + 3, 2, none⟩ = some (.slice AS ns cs) := by
      refine ⟨?_, ?_, ?_⟩ <;> (rw [cell_of_row _ _ _ _ _ _ k2]; rfl)
    go_wp2_with fail
    exact bodyPost_ret (v := .tuple #[.agg #[.slice A9 n9 c9, .int .i64 fm], .agg #[.int .i64 er, .int .i64 N, .slice AS ns cs], .slice AR nr cr]) (by simp [results, Try.results11, go_sem, j0, j1, j2, j3, j4]) rfl ⟨A9, n9, c9, F9, AR, nr, cr, RS, AS, ns, cs, SS, rfl, k3.1, HM.out.1, k3.2.1, HM.out.2.1, k3.2.2.1, HM.out.2.2, k3.2.2.2⟩)
end Go.Proofs.Ytdjgndnllaingaa.TrW
