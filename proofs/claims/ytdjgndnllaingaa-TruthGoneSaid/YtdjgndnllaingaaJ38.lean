/-
  truth.Do OF ANOTHER KIND: THE WALK.
  truth.Do.
  OPERATIONS IN MEMORY; alluviumlaw08.FewOps: THE WALK.
  truth.right OF A SERIES THAT MAY BE: THE WALK.
-/
import Derived.Test.YtdjgndnllaingaaJ34
import Derived.Test.YtdjgndnllaingaaJ37
import Derived.Test.YtdjgndnllaingaaJ14
import Derived.Test.YtdjgndnllaingaaJ12
import Derived.Test.YtdjgndnllaingaaJ20
/-
  truth.Do OF ANOTHER KIND: THE WALK.
-/
namespace Go.Proofs.Ytdjgndnllaingaa.TrW
set_option linter.unusedVariables false
open Go.RowKit Go.Shelf LabM LbM LabW FrW TrM
set_option maxRecDepth 20000 in
set_option maxHeartbeats 8000000 in
theorem do_else_any (A : Option Addr) (n c : Nat) (hs : List SerH) (f gen : Int) (o : OpH) (w : World) (hst : StV w A n c hs f) (ho : OkO w o) (hk0 : o.kd ≠ 0) (hk1 : o.kd ≠ 1) (hk2 : o.kd ≠ 2) (hk3 : o.kd ≠ 3) :
    Calls Try.prog 11 #[.agg #[.slice A n c, .int .i64 f], .agg #[.int .i64 o.kd, .slice o.ls.1.1 o.ls.1.2.1 o.ls.1.2.2, .slice o.ms.1.1 o.ms.1.2.1 o.ms.1.2.2, .int .i64 o.t, .int .i64 o.te, .int .u64 o.v, .int .i64 o.g], .int .i64 gen] w (Done (doM (hs.map absR, f) (absO o) gen) w) := by
  obtain ⟨Wa, Wb, Wc, Wd, We, ha, hb, hc, hdd, he, za, zb, zc, zd, ⟨rst, rop⟩, hB⟩ := DoB.new w A n c f gen o
  rw [show doM (hs.map absR, f) (absO o) gen = ((hs.map absR, f), (1, 0, []), []) from do_else (o := absO o) hk0 hk1 hk2 hk3]
  have hop1 := hB.op
  have hst1 := hB.st
  unfold opRow at hb rop hop1
  unfold dRow at he
  obtain ⟨x0, x1⟩ : Wd.cell? ⟨w.heap.size, 0, none⟩ = some (.slice A n c) ∧ Wd.cell? ⟨w.heap.size, 1, none⟩ = some (.int .i64 f) := by
    refine ⟨?_, ?_⟩ <;> (rw [cell_of_row _ _ _ _ _ _ rst]; rfl)
  obtain ⟨y0, y1, y2, y3, y4, y5, y6⟩ : Wd.cell? ⟨w.heap.size + 1, 0, none⟩ = some (.int .i64 o.kd) ∧ Wd.cell? ⟨w.heap.size + 1, 1, none⟩ = some (hdV o.ls.1) ∧ Wd.cell? ⟨w.heap.size + 1, 2, none⟩ = some (hdV o.ms.1) ∧ Wd.cell? ⟨w.heap.size + 1, 3, none⟩ = some (.int .i64 o.t) ∧ Wd.cell? ⟨w.heap.size + 1, 4, none⟩ = some (.int .i64 o.te) ∧ Wd.cell? ⟨w.heap.size + 1, 5, none⟩ = some (.int .u64 o.v) ∧ Wd.cell? ⟨w.heap.size + 1, 6, none⟩ = some (.int .i64 o.g) := by
    refine ⟨?_, ?_, ?_, ?_, ?_, ?_, ?_⟩ <;> (rw [cell_of_row _ _ _ _ _ _ rop]; rfl)
  have g0 : We.cell? ⟨w.heap.size + 1, 0, none⟩ = some (.int .i64 o.kd) := by rw [cell_of_row _ _ _ _ _ _ hop1]; rfl
  obtain ⟨z0, z1⟩ : We.cell? ⟨w.heap.size, 0, none⟩ = some (.slice A n c) ∧ We.cell? ⟨w.heap.size, 1, none⟩ = some (.int .i64 f) := by
    refine ⟨?_, ?_⟩ <;> (rw [cell_of_row _ _ _ _ _ _ hst1]; rfl)
  have hF0 : DoF w We A n c hs f none 0 0 [] none 0 0 [] := ⟨hst.later hB.below, Recs.nil _, Sers.nil _, hB.below⟩
  obtain ⟨s1, s2, e1, e2, ⟨⟨v1, p1⟩, p2, ⟨v2, p3⟩, p4⟩, p5, p6, p7⟩ := stS hF0 hB.rs (by omega)
  obtain ⟨s3, s4, s5, e3, e4, e5, ⟨⟨v3, q1⟩, q2, ⟨v4, q3⟩, q4, ⟨v5, q5⟩, q6⟩, q7, q8, q9⟩ := stA p7 1 0 ((p6 _ (by omega)).trans hB.ra) (by omega)
  have hfa : s5.heap[w.heap.size + 2]? = _ := (q8 _ (by omega)).trans p5
  have HA := Lib.hid (And.intro hfa (And.intro q7 q9))
  have b0 : (o.kd == 0) = false := by simpa using hk0
  have b1 : (o.kd == 1) = false := by simpa using hk1
  have b2 : (o.kd == 2) = false := by simpa using hk2
  have b3 : (o.kd == 3) = false := by simpa using hk3
  unfold hdV at y1 y2 hb he
  clear hst ho hB rst rop hop1 hst1 p5 p6 p7 q7 q8 q9 hfa hF0
  go_enter Try.func11, Try.ntmps11
  go_wp2_with fail
  obtain ⟨k1, k2, k3⟩ := HA.out
  obtain ⟨j0, j1⟩ : s5.cell? ⟨w.heap.size + 2, 0, none⟩ = some (.slice A n c) ∧ s5.cell? ⟨w.heap.size + 2, 1, none⟩ = some (.int .i64 f) := by
    refine ⟨?_, ?_⟩ <;> (rw [cell_of_row _ _ _ _ _ _ k1]; rfl)
  obtain ⟨j2, j3, j4⟩ : s5.cell? ⟨w.heap.size + 3, 0, none⟩ = some (.int .i64 1) ∧ s5.cell? ⟨w.heap.size + 3, 1, none⟩ = some (.int .i64 0) ∧ s5.cell? ⟨w.heap.size + 3, 2, none⟩ = some (.slice none 0 0) := by
    refine ⟨?_, ?_, ?_⟩ <;> (rw [cell_of_row _ _ _ _ _ _ k2]; rfl)
  exact bodyPost_ret (v := .tuple #[.agg #[.slice A n c, .int .i64 f], .agg #[.int .i64 1, .int .i64 0, .slice none 0 0], .slice none 0 0]) (by simp [results, Try.results11, go_sem, j0, j1, j2, j3, j4]) rfl ⟨A, n, c, hs, none, 0, 0, [], none, 0, 0, [], rfl, k3.1, rfl, k3.2.1, rfl, k3.2.2.1, rfl, k3.2.2.2⟩
end Go.Proofs.Ytdjgndnllaingaa.TrW
/-
  truth.Do.
-/
namespace Go.Proofs.Ytdjgndnllaingaa.TrW
set_option linter.unusedVariables false
open Go.RowKit Go.Shelf LabM LbM LabW FrW TrM
theorem do_any (A : Option Addr) (n c : Nat) (hs : List SerH) (f gen : Int) (o : OpH) (w : World) (hst : StV w A n c hs f) (ho : OkO w o) :
    Calls Try.prog 11 #[.agg #[.slice A n c, .int .i64 f], .agg #[.int .i64 o.kd, hdV o.ls.1, hdV o.ms.1, .int .i64 o.t, .int .i64 o.te, .int .u64 o.v, .int .i64 o.g], .int .i64 gen] w (Done (doM (hs.map absR, f) (absO o) gen) w) := by
  by_cases h0 : o.kd = 0
  · have := do_0 A n c hs f gen o w hst ho h0
    rw [← h0] at this; exact this
  by_cases h1 : o.kd = 1
  · have := do_1 A n c hs f gen o w hst ho h1
    rw [← h1] at this; exact this
  by_cases h2 : o.kd = 2
  · have := do_2 A n c hs f gen o w hst ho h2
    rw [← h2] at this; exact this
  by_cases h3 : o.kd = 3
  · have := do_3 A n c hs f gen o w hst ho h3
    rw [← h3] at this; exact this
  exact do_else_any A n c hs f gen o w hst ho h0 h1 h2 h3
end Go.Proofs.Ytdjgndnllaingaa.TrW
/-
  OPERATIONS IN MEMORY; alluviumlaw08.FewOps: THE WALK.
-/
namespace Go.Proofs.Ytdjgndnllaingaa.TrW
set_option linter.unusedVariables false
open Go.RowKit Go.Shelf LabM LbM LabW FrW TrM
def encO (o : OpH) : List Value := [.int .i64 o.kd, hdV o.ls.1, hdV o.ms.1, .int .i64 o.t, .int .i64 o.te, .int .u64 o.v, .int .i64 o.g]
/-- An operation that came in. -/
structure OkI (w : World) (o : OpH) : Prop where
  ls : Comes w 2 encL okL o.ls.1.1 o.ls.1.2.1 o.ls.1.2.2 o.ls.2
  ms : Comes w 3 encM okM o.ms.1.1 o.ms.1.2.1 o.ms.1.2.2 o.ms.2
  t : -9223372036854775808 ≤ o.t ∧ o.t ≤ 9223372036854775807
  te : -9223372036854775808 ≤ o.te ∧ o.te ≤ 9223372036854775807
  v : 0 ≤ o.v ∧ o.v < 18446744073709551616
theorem OkI.later {w w' : World} {o : OpH} (h : OkI w o) (hb : Below w.heap.size w w') : OkI w' o := ⟨h.ls.later hb, h.ms.later hb, h.t, h.te, h.v⟩
structure Ops (w : World) (A : Option Addr) (n c : Nat) (os : List OpH) : Prop where
  row : Comes w 7 encO (fun _ => True) A n c os
  ok : ∀ o ∈ os, OkI w o
theorem Ops.later {w w' : World} {A : Option Addr} {n c : Nat} {os : List OpH} (h : Ops w A n c os) (hb : Below w.heap.size w w') : Ops w' A n c os := ⟨h.row.later hb, fun x hx => (h.ok x hx).later hb⟩
theorem Ops.cells {w : World} {A : Option Addr} {n c : Nat} {os : List OpH} (h : Ops w A n c os) {k : Nat} (hk : k < os.length) :
    ∃ b o, A = some ⟨b, o, none⟩ ∧ b < w.heap.size ∧ ∀ W, Below w.heap.size w W → W.cell? ⟨b, o + k * 7, none⟩ = some (.int .i64 os[k].kd) ∧ W.cell? ⟨b, o + k * 7 + 1, none⟩ = some (hdV os[k].ls.1) ∧ W.cell? ⟨b, o + k * 7 + 2, none⟩ = some (hdV os[k].ms.1) ∧ W.cell? ⟨b, o + k * 7 + 3, none⟩ = some (.int .i64 os[k].t) ∧ W.cell? ⟨b, o + k * 7 + 4, none⟩ = some (.int .i64 os[k].te) ∧ W.cell? ⟨b, o + k * 7 + 5, none⟩ = some (.int .u64 os[k].v) ∧ W.cell? ⟨b, o + k * 7 + 6, none⟩ = some (.int .i64 os[k].g) := by
  obtain ⟨b, o, hA, hb, hc⟩ := h.row.lies.all hk
  exact ⟨b, o, hA, hb, fun W hW => ⟨hc W hW 0 _ rfl, hc W hW 1 _ rfl, hc W hW 2 _ rfl, hc W hW 3 _ rfl, hc W hW 4 _ rfl, hc W hW 5 _ rfl, hc W hW 6 _ rfl⟩⟩
def fewO (o : OpH) : Bool := fewB o.ls.2 && fewM o.ms.2
def fewOps (os : List OpH) : Bool := os.all fewO && decide (os.length ≤ 40)
theorem fewOps_iff (os : List OpH) : fewOps os = true ↔ (∀ o ∈ os, fewO o = true) ∧ os.length ≤ 40 := by unfold fewOps; rw [Bool.and_eq_true, decide_eq_true_eq, List.all_eq_true]
theorem OkI.okO {w : World} {o : OpH} (h : OkI w o) (hf : fewO o = true) : OkO w o := by
  unfold fewO at hf
  rw [Bool.and_eq_true] at hf
  refine ⟨h.ls, hf.1, h.ms, ?_, h.t, h.te, h.v⟩
  have := hf.2
  unfold fewM at this
  rw [Bool.and_eq_true, decide_eq_true_eq] at this
  exact this.2
set_option maxRecDepth 20000 in
set_option maxHeartbeats 4000000 in
theorem fewOps_any (A : Option Addr) (n c : Nat) (os : List OpH) (w : World) (hl : Ops w A n c os) :
    Calls Try.prog 10 #[.slice A n c] w fun e w' => e = .returned (.bool (fewOps os)) ∧ Below w.heap.size w w' := by
  have HL := Lib.hid hl
  have hcap : c ≤ 9223372036854775807 := hl.row.cap
  have hle := hl.row.le
  clear hl
  go_enter Try.func10, Try.ntmps10
  go_wp2_with fail
  go_loopw [3] (fun v3 wr => ∃ k : Nat, k ≤ n ∧ k ≤ 41 ∧ v3 = .int .i64 k ∧ (∀ o ∈ os.take k, fewO o = true) ∧ Below w.heap.size w wr) (fun v3 _ => n - (intOf v3).toNat)
  case atStart => exact ⟨0, Nat.zero_le _, Nat.zero_le _, rfl, fun o ho => by simp at ho, Below.refl _ _⟩
  case round =>
    obtain ⟨k, hk, hk41, rfl, hall, ho⟩ := hrel
    have hln := HL.out.row.len
    by_cases hlt : k < n
    · by_cases h40 : k ≤ 40
      · have hkl : k < os.length := by omega
        obtain ⟨b, o, rfl, -, hcs⟩ := HL.out.cells hkl
        obtain ⟨c0, c1, c2, -⟩ := hcs _ ho
        have hsn := take_snocL os k hkl
        have hmem := List.getElem_mem hkl
        have hok := (HL.out.ok _ hmem).later ho
        generalize os[k] = x at *
        obtain ⟨kd, ⟨⟨A1, n1, p1⟩, L⟩, ⟨⟨A2, n2, p2⟩, M⟩, t, te, v, g⟩ := x
        unfold hdV at c1 c2
        have hls := hok.ls
        have hms := hok.ms
        dsimp only at hls hms c1 c2
        have i0 : (0 : Int) ≤ (k : Int) := by omega
        have i1 : (k : Int) < (n : Int) := by omega
        have i2 : (k : Int) ≤ 40 := by omega
        have hnoX : (fewB L && fewM M) = false → fewOps os = false := fun h => by
          unfold fewOps
          rw [List.all_eq_false.2 ⟨_, hmem, by show ¬ (fewB L && fewM M) = true; rw [h]; decide⟩]; rfl
        have HN := Lib.hid hnoX
        have hYES : (fewB L && fewM M) = true → ∀ o ∈ os.take (k + 1), fewO o = true := fun h o ho => by
          rw [hsn] at ho
          rcases List.mem_append.1 ho with ho | ho
          · exact hall o ho
          · rw [List.mem_singleton.1 ho]; exact h
        have HY := Lib.hid hYES
        have HLS := Lib.hid (And.intro hls (And.intro hms ho))
        clear hall hsn hmem hok hls hms hnoX hYES hcs ho
        go_wp2_with fail
        refine (few_any A1 n1 p1 L _ HLS.out.1).mono ?_
        rintro e w1 ⟨rfl, hb1⟩
        cases hf : fewB L with
        | false =>
          rw [hf] at HN HY
          have HNO := Lib.hid (HN.out rfl)
          have HB := Lib.hid (later HLS.out.2.2 hb1)
          clear hb1 HN HY HLS c0 c1 c2 hf
          go_wp2_with fail
          go_ret
          exact ⟨by rw [HNO.out]; rfl, HB.out⟩
        | true =>
          rw [hf] at HN HY
          have c3 := (World.cell?_of_block (hb1.block _ (World.block_lt_of_cell? _ _ c2))).trans c2
          have KM := Lib.hid (fewM_any A2 n2 p2 M w1 (HLS.out.2.1.later hb1))
          have HB := Lib.hid (later HLS.out.2.2 hb1)
          clear hb1 HLS c0 c1 hf
          go_wp2_with fail
          refine KM.out.mono ?_
          rintro e w2 ⟨rfl, rfl⟩
          clear KM
          cases hfm : fewM M with
          | false =>
            rw [hfm] at HN
            have HNO := Lib.hid (HN.out rfl)
            clear HN HY hfm
            go_wp2_with fail
            go_ret
            exact ⟨by rw [HNO.out]; rfl, HB.out⟩
          | true =>
            rw [hfm] at HY
            have HYY := Lib.hid (HY.out rfl)
            clear HN HY hfm
            go_wp2_with fail
            go_roundw
            case rel => exact ⟨k + 1, by omega, by omega, by go_num, HYY.out, HB.out⟩
            case measure => simp [intOf]; omega
      · have hno : fewOps os = false := by unfold fewOps; rw [decide_eq_false (by omega)]; simp
        have HN := Lib.hid hno
        have h11 : ¬ ((k : Int) ≤ 40) := by omega
        have hn10 : ¬ ((n : Int) ≤ 40) := by omega
        have HO := Lib.hid ho
        clear hno hall hln ho
        go_wp2_with fail
        go_ret
        refine ⟨?_, HO.out⟩
        rw [HN.out, show false = decide ((n : Int) ≤ 40) from (decide_eq_false (show ¬ (n : Int) ≤ 40 by omega)).symm]
        rfl
    · obtain rfl : k = n := by omega
      rw [List.take_of_length_le (by omega)] at hall
      have hv : fewOps os = decide ((k : Int) ≤ 40) := by unfold fewOps; rw [List.all_eq_true.2 hall, Bool.true_and, decide_eq_decide]; omega
      have HV := Lib.hid hv
      have HO := Lib.hid ho
      clear hall hv hln ho
      go_wp2_with fail
      go_ret
      exact ⟨by rw [HV.out]; rfl, HO.out⟩
end Go.Proofs.Ytdjgndnllaingaa.TrW
/-
  truth.right OF A SERIES THAT MAY BE: THE WALK.
-/
namespace Go.Proofs.Ytdjgndnllaingaa.TrW
set_option linter.unusedVariables false
open Go.RowKit Go.Shelf LabM LbM LabW FrW TrM
set_option maxRecDepth 20000 in
set_option maxHeartbeats 4000000 in
theorem right_yes (x : SerH) (f : Int) (w : World) (hx : okR w x) (hr : RightS f (absR x)) :
    Calls Try.prog 30 #[serV x, .int .i64 f] w fun e w' => e = .returned (.bool true) ∧ Below w.heap.size w w' := by
  obtain ⟨⟨⟨A1, n1, c1⟩, L⟩, ⟨⟨A3, n3, c3⟩, S⟩, T⟩ := x
  have KC : Hid (∀ W, Below w.heap.size w W → Calls Try.prog 50 #[.slice A1 n1 c1] W fun e w' => e = .returned (.int .i64 0) ∧ Below W.heap.size W w') := Lib.hid (fun W h => by
    have := check_any A1 n1 c1 L W (hx.lab.later h)
    rw [show checkB L = true from hr.lab, errN_true] at this
    exact this)
  have KS : Hid (∀ W, Below w.heap.size w W → Calls Try.prog 51 #[.slice A3 n3 c3] W fun e w' => e = .returned (.bool true) ∧ Below W.heap.size W w') := Lib.hid (fun W h => by
    have := LabW.sorted_any A3 n3 c3 S W (hx.sam.later h)
    rw [show sortedL S = true from hr.sor] at this
    exact this)
  have hsl : S.length = n3 := hx.sam.len
  have hcap : c3 ≤ 9223372036854775807 := hx.sam.cap
  have hle : n3 ≤ c3 := hx.sam.le
  have hlen : S.length ≤ 200 := hr.len
  have hlast : T ≤ 1125899906842624 := hr.last
  have hfl : f ≤ T := hr.floor
  have hins : ∀ y ∈ S, f ≤ y.1 ∧ y.1 ≤ T := hr.ins
  have hsam : Comes w 2 encS okS A3 n3 c3 S := hx.sam
  obtain ⟨W0, hW0⟩ : ∃ W0, w.alloc (.cells #[.slice A1 n1 c1, .slice A3 n3 c3, .int .i64 T] 48 (0, 0)) = W0 := ⟨_, rfl⟩
  have hb0 : Below w.heap.size w W0 := by rw [← hW0]; exact (Below.refl _ _).alloc (Nat.le_refl _) _
  have hr0 : W0.heap[w.heap.size]? = some (.cells #[.slice A1 n1 c1, .slice A3 n3 c3, .int .i64 T] 48 (0, 0)) := by rw [← hW0]; exact heap_alloc_new w _
  obtain ⟨x0, x1, x2⟩ : W0.cell? ⟨w.heap.size, 0, none⟩ = some (.slice A1 n1 c1) ∧ W0.cell? ⟨w.heap.size, 1, none⟩ = some (.slice A3 n3 c3) ∧ W0.cell? ⟨w.heap.size, 2, none⟩ = some (.int .i64 T) := by
    refine ⟨?_, ?_, ?_⟩ <;> (rw [cell_of_row _ _ _ _ _ _ hr0]; rfl)
  have HB := Lib.hid (And.intro hb0 hr0)
  have HSM := Lib.hid hsam
  have HIN := Lib.hid hins
  clear hx hr hsam hins hb0 hr0
  have hn2 : n3 ≤ 200 := by omega
  have hgt : ¬ (n3 : Int) > 200 := by omega
  show Calls Try.prog 30 #[.agg #[.slice A1 n1 c1, .slice A3 n3 c3, .int .i64 T], .int .i64 f] w _
  go_enter Try.func30, Try.ntmps30
  go_wp2_with fail
  refine (KC.out _ HB.out.1).mono ?_
  rintro e w1 ⟨rfl, hb⟩
  replace HB := Lib.hid (And.intro (later HB.out.1 hb) ((hb.block _ (Array.getElem?_eq_some_iff.1 HB.out.2).1).trans HB.out.2))
  clear hb x0 x1 x2 hW0
  obtain ⟨x0, x1, x2⟩ : w1.cell? ⟨w.heap.size, 0, none⟩ = some (.slice A1 n1 c1) ∧ w1.cell? ⟨w.heap.size, 1, none⟩ = some (.slice A3 n3 c3) ∧ w1.cell? ⟨w.heap.size, 2, none⟩ = some (.int .i64 T) := by
    refine ⟨?_, ?_, ?_⟩ <;> (rw [cell_of_row _ _ _ _ _ _ HB.out.2]; rfl)
  go_wp2_with fail
  refine (KS.out _ HB.out.1).mono ?_
  rintro e w2 ⟨rfl, hb⟩
  replace HB := Lib.hid (And.intro (later HB.out.1 hb) ((hb.block _ (Array.getElem?_eq_some_iff.1 HB.out.2).1).trans HB.out.2))
  clear hb x0 x1 x2
  obtain ⟨x0, x1, x2⟩ : w2.cell? ⟨w.heap.size, 0, none⟩ = some (.slice A1 n1 c1) ∧ w2.cell? ⟨w.heap.size, 1, none⟩ = some (.slice A3 n3 c3) ∧ w2.cell? ⟨w.heap.size, 2, none⟩ = some (.int .i64 T) := by
    refine ⟨?_, ?_, ?_⟩ <;> (rw [cell_of_row _ _ _ _ _ _ HB.out.2]; rfl)
  have hT1 : ¬ T > 1125899906842624 := by omega
  by_cases hn0 : n3 = 0
  · subst hn0
    have hge : T ≥ f := hfl
    go_wp2_with fail
    go_ret
    exact ⟨rfl, HB.out.1⟩
  · have hk0 : 0 < S.length := by omega
    have hk1 : n3 - 1 < S.length := by omega
    obtain ⟨b, o, rfl, hcs⟩ := S_cells HSM.out.lies hk0
    obtain ⟨b2, o2, hA2, hcs2⟩ := S_cells HSM.out.lies hk1
    obtain ⟨rfl, rfl⟩ : b = b2 ∧ o = o2 := by injection hA2 with hA2; injection hA2 with e1 e2; exact ⟨e1, e2⟩
    have c0 := (hcs _ HB.out.1).1
    have c1' := (hcs2 _ HB.out.1).1
    have hi0 := HIN.out _ (List.getElem_mem hk0)
    have hi1 := HIN.out _ (List.getElem_mem hk1)
    have e0 : o + 0 * 2 = o := by omega
    rw [e0] at c0
    generalize S[0].1 = t0 at *
    generalize S[n3 - 1].1 = t1 at *
    obtain ⟨m, hm⟩ : ∃ m, n3 - 1 = m := ⟨_, rfl⟩
    rw [hm] at c1'
    have hnm : n3 = m + 1 := by omega
    subst hnm
    have hne : ¬ ((m : Int) + 1 = 0) := by omega
    have hw1 : IntKind.i64.wrap ((m : Int) + 1 - 1) = (m : Int) := by rw [show (m : Int) + 1 - 1 = (m : Int) by omega]; exact IntWalk.i64_in _ (by omega)
    have hm0 : (0 : Int) ≤ (m : Int) := by omega
    have hm1 : (m : Int) < (m : Int) + 1 := by omega
    have g0 : t0 ≥ f := hi0.1
    have g1 : t1 ≤ T := hi1.2
    clear hcs hcs2 hA2 hm hn0 hi0 hi1 hk0 hk1 e0
    go_wp2_with fail
    go_quiet (fail)
    go_wp2_with fail
    go_ret
    exact ⟨rfl, HB.out.1.trans ⟨rfl, rfl, rfl, Nat.le_refl _, fun _ _ => rfl⟩⟩
end Go.Proofs.Ytdjgndnllaingaa.TrW
