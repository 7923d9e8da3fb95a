/-
  truth.Apply OF WHAT DELETES: THE WALK.
-/
import Derived.Test.YtdjgndnllaingaaJ27
/-
  truth.Apply OF WHAT DELETES: THE WALK.
-/
namespace Go.Proofs.Ytdjgndnllaingaa.TrW
set_option linter.unusedVariables false
open Go.RowKit Go.Shelf LabM LbM LabW FrW TrM
theorem flat_set1 (F : List SerH) (i : Nat) (a : Option Addr × Nat × Nat) (S : List Sam) (hi : i < F.length) :
    (F.flatMap encR).set (i * 3 + 1) (hdV a) = (F.set i (F[i].1, (a, S), F[i].2.2)).flatMap encR := by
  induction F generalizing i with
  | nil => simp at hi
  | cons x F ih =>
    cases i with
    | zero => simp [encR]
    | succ i =>
      have := ih i (by simpa using hi)
      rw [List.flatMap_cons, List.set_cons_succ, List.flatMap_cons, List.getElem_cons_succ, ← this]
      rw [show (i + 1) * 3 + 1 = (encR x).length + (i * 3 + 1) by rw [encR_len]; omega]
      rw [List.set_append_right _ _ (by omega)]
      simp
theorem fin_del (hs : List SerH) (f : Int) (l : List Lab) (T O V : Int) (i : Nat) (hi : i < hs.length) (hf : fnd (hs.map absR) l = some i) (hne : ¬ (restS T O (absR hs[i])).length = hs[i].2.1.2.length) (a : Option Addr × Nat × Nat) :
    (applyM (hs.map absR, f) (1, l, T, O, V)).2 = 0 ∧ (applyM (hs.map absR, f) (1, l, T, O, V)).1.2 = f ∧ (hs.set i (hs[i].1, (a, restS T O (absR hs[i])), hs[i].2.2)).map absR = (applyM (hs.map absR, f) (1, l, T, O, V)).1.1 := by
  have e : applyM (hs.map absR, f) (1, l, T, O, V) = (((hs.map absR).set i ((atS (hs.map absR) i).1, restS T O (atS (hs.map absR) i), (atS (hs.map absR) i).2.2), f), 0) := by
    unfold applyM
    simp only []
    rw [if_neg (by decide), if_pos trivial, hf]
    simp only []
    rw [atS_lt (by rw [List.length_map]; exact hi), List.getElem_map, if_neg (show ¬ (restS T O (absR hs[i])).length = (absR hs[i]).2.1.length from hne)]
  rw [e, atS_lt (by rw [List.length_map]; exact hi), List.getElem_map]
  refine ⟨rfl, rfl, ?_⟩
  rw [List.map_set]
  rfl
set_option maxRecDepth 20000 in
set_option maxHeartbeats 8000000 in
theorem apply_1 (A : Option Addr) (n c : Nat) (hs : List SerH) (f : Int) (A2 : Option Addr) (n2 c2 : Nat) (l : List Lab) (T O V : Int) (w : World) (hl : Sers w A n c hs) (hn : n ≤ 900) (hF : FewS hs) (hS : SmallS hs) (hl2 : Comes w 2 encL okL A2 n2 c2 l) (hf2 : fewB l = true) :
    Calls Try.prog 19 #[.agg #[.slice A n c, .int .i64 f], .agg #[.int .i64 1, .slice A2 n2 c2, .int .i64 T, .int .i64 O, .int .u64 V]] w (ApA (hs.map absR, f) (1, l, T, O, V) w) := by
  have HL := Lib.hid hl
  have hln := hl.row.len
  have hcap : c ≤ 9223372036854775807 := hl.row.cap
  have hle := hl.row.le
  have KF : Hid (∀ W, Below w.heap.size w W → Calls Try.prog 16 #[.agg #[.slice A n c, .int .i64 f], .slice A2 n2 c2] W fun e w' => e = .returned (.int .i64 (findI (hs.map absR) l)) ∧ Below W.heap.size W w') := Lib.hid (fun W h => find_any A n c hs f A2 n2 c2 l W (hl.later h) (by omega) hF (hl2.later h) hf2)
  have KC : Hid (∀ W, Below w.heap.size w W → Calls Try.prog 38 #[.slice A n c] W fun e w' => ∃ v, e = .returned v ∧ w'.ownsRow W.heap.size 48 3 v n (hs.flatMap encR) ∧ Below W.heap.size W w') := Lib.hid (fun W h => cloneR_any A n c hs W (hl.later h).row (by omega))
  have HSM := Lib.hid hS
  have HA0 := Lib.hid (AB.new w A n c f 1 A2 n2 c2 T O V)
  obtain ⟨Wa, hWa⟩ : ∃ Wa, w.alloc (.cells #[.slice A n c, .int .i64 f] 28 (0, 0)) = Wa := ⟨_, rfl⟩
  obtain ⟨Wb, hWb⟩ : ∃ Wb, Wa.alloc (.cells #[.int .i64 1, .slice A2 n2 c2, .int .i64 T, .int .i64 O, .int .u64 V] 64 (0, 0)) = Wb := ⟨_, rfl⟩
  obtain ⟨W0, hW0⟩ : ∃ W0, Wb.alloc (.cells #[.slice none 0 0, .int .i64 0] 28 (0, 0)) = W0 := ⟨_, rfl⟩
  rw [hWa, hWb, hW0] at HA0
  have za : Wa.heap.size = w.heap.size + 1 := by rw [← hWa]; simp
  have zb : Wb.heap.size = w.heap.size + 2 := by rw [← hWb]; simp [za]
  obtain ⟨⟨x0, x1⟩, y0, y1, y2, y3, y4⟩ := HA0.out.cells
  clear hl hl2 hF hS
  go_enter Try.func19, Try.ntmps19
  go_wp2_with fail
  refine (KF.out _ HA0.out.below).mono ?_
  rintro e w1 ⟨rfl, hb⟩
  have HA := Lib.hid (HA0.out.later hb)
  clear hb x0 x1 y0 y1 y2 y3 y4 hW0 hWa hWb za zb
  obtain ⟨⟨x0, x1⟩, y0, y1, y2, y3, y4⟩ := HA.out.cells
  rcases findI_cases (hs.map absR) l with ⟨e1, e2⟩ | ⟨i, e1, e2, hi⟩
  · have HAP : Hid (applyM (hs.map absR, f) (1, l, T, O, V) = ((hs.map absR, f), 9)) := Lib.hid (by unfold applyM; simp only []; rw [if_neg (by decide), if_pos trivial, e2])
    rw [e1]
    clear e1 e2 KC
    go_wp2_with (refine wpList_store_row rfl 28 _ _ rfl (w.heap.size + 2) #[.slice A n c, .int .i64 f] rfl rfl 28 _ HA.out.res info_S rfl (by simp [Value.oneCell']) ?_)
    obtain ⟨⟨r0, r1⟩, hz1, hz2⟩ := HA.out.done A n c f hs (HL.out.later HA.out.below)
    exact bodyPost_ret (v := .tuple #[.agg #[.slice A n c, .int .i64 f], .int .i64 9]) (by simp [results, Try.results19, go_sem, r0, r1]) rfl ⟨A, n, c, hs, by rw [HAP.out], hz1, by rw [HAP.out], hz2⟩
  · rw [List.length_map] at hi
    rw [e1]
    obtain ⟨b, o, rfl, -, hcs⟩ := HL.out.cells hi
    have hok := HL.out.ok _ (List.getElem_mem hi)
    have hsm := HSM.out _ (List.getElem_mem hi)
    have hsl := hok.sam.len
    have KW : Hid (∀ W, Below w.heap.size w W → Calls Try.prog 37 #[hdV hs[i].2.1.1, .int .i64 T, .int .i64 O] W fun e w' => ∃ v, e = .returned v ∧ w'.ownsRow W.heap.size 51 2 v (restS T O (absR hs[i])).length ((restS T O (absR hs[i])).flatMap encS) ∧ Below W.heap.size W w') := Lib.hid (fun W h => without_any hs[i].2.1.1.1 hs[i].2.1.1.2.1 hs[i].2.1.1.2.2 hs[i].2.1.2 T O W (hok.sam.later h) (by omega))
    have HOKS : Hid (∀ y ∈ restS T O (absR hs[i]), okS y) := Lib.hid (fun y hy => hok.sam.ok y (List.mem_filter.1 hy).1)
    have HEQ : Hid ((restS T O (absR hs[i])).length = hs[i].2.1.2.length → applyM (hs.map absR, f) (1, l, T, O, V) = ((hs.map absR, f), 9)) := Lib.hid (fun h => by
      unfold applyM
      simp only []
      rw [if_neg (by decide), if_pos trivial, e2]
      simp only []
      rw [atS_lt (by rw [List.length_map]; exact hi), List.getElem_map, if_pos (show (restS T O (absR hs[i])).length = (absR hs[i]).2.1.length from h)])
    have HNE := Lib.hid (fun h a => fin_del hs f l T O V i hi e2 h a)
    have HCS := Lib.hid hcs
    have hrl := rest_len T O (absR hs[i])
    have hrl : (restS T O (absR hs[i])).length ≤ hs[i].2.1.2.length := hrl
    have HOKI := Lib.hid hok
    have i0 : (0 : Int) ≤ (i : Int) := by omega
    have i1 : (i : Int) < (n : Int) := by omega
    have i2 : ¬ (i : Int) < 0 := by omega
    have hcc := fun W h => (hcs W h).2.1
    have HFS := Lib.hid (fun a => flat_set1 hs i a (restS T O (absR hs[i])) hi)
    clear e1 e2 hcs hok
    have hcx := hcc _ HA.out.below
    generalize restS T O (absR hs[i]) = RS at *
    have hyy : ∃ y, hs[i] = y := ⟨_, rfl⟩
    obtain ⟨y, hy⟩ := hyy
    rw [hy] at hsm hsl KW HEQ HNE hrl hcx hcc HOKI HFS
    obtain ⟨⟨⟨A5, n5, c5⟩, L5⟩, ⟨⟨A6, n6, c6⟩, S6⟩, T6⟩ := y
    unfold hdV at KW hcx hcc
    simp only [] at hsm hsl KW HEQ HNE hrl hcx hcc HFS
    have HK := Lib.hid (fun (W W' : World) (h : AB w W (some ⟨b, o, none⟩) n c f 1 A2 n2 c2 T O V) (hb : Below W.heap.size W W') =>
      (⟨h.later hb, (h.later hb).cells.1.1, hcc _ (h.later hb).below, (h.later hb).cells.2.2.2.1, (h.later hb).cells.2.2.2.2.1⟩ : AB w W' (some ⟨b, o, none⟩) n c f 1 A2 n2 c2 T O V ∧ W'.cell? ⟨w.heap.size, 0, none⟩ = some (.slice (some ⟨b, o, none⟩) n c) ∧ W'.cell? ⟨b, o + i * 3 + 1, none⟩ = some (.slice A6 n6 c6) ∧ W'.cell? ⟨w.heap.size + 1, 2, none⟩ = some (.int .i64 T) ∧ W'.cell? ⟨w.heap.size + 1, 3, none⟩ = some (.int .i64 O)))
    have K0 := HK.out _ _ HA.out (below_self_drew _)
    have HYY := Lib.hid hy
    clear hcc hy
    go_wp2_with fail
    go_region_held3 (fun W' : World => AB w W' (some ⟨b, o, none⟩) n c f 1 A2 n2 c2 T O V ∧ W'.cell? ⟨w.heap.size, 0, none⟩ = some (.slice (some ⟨b, o, none⟩) n c) ∧ W'.cell? ⟨b, o + i * 3 + 1, none⟩ = some (.slice A6 n6 c6) ∧ W'.cell? ⟨w.heap.size + 1, 2, none⟩ = some (.int .i64 T) ∧ W'.cell? ⟨w.heap.size + 1, 3, none⟩ = some (.int .i64 O))
      (first | exact K0 | exact HK.out _ _ (And.left (by assumption)) (by assumption) | exact HK.out _ _ (And.left K0) (by assumption))
      (first
      | (go_at_call 37; refine (KW.out _ (And.left K0).below).mono ?_; rintro e w2 ⟨v, rfl, hown2, hb2⟩; have hwz1 := Lib.hid (Nat.le_trans (And.left K0).size (Nat.le_refl _))))
    rename_i hh
    obtain ⟨A3, c3, rfl, -, hc3⟩ := Comes.of_own hown2 (fun _ => rfl) (by decide) HOKS.out
    have hcap3 : c3 ≤ 9223372036854775807 := hc3.cap
    have hle3 := hc3.le
    obtain ⟨m, hm⟩ : ∃ m, RS.length = m := ⟨_, rfl⟩
    rw [hm] at hown2 hc3 hrl hle3
    rw [hm]
    replace HA := Lib.hid hh.1
    have HOW := Lib.hid (And.intro hown2 hm)
    have HEQ2 : Hid (m = n6 → applyM (hs.map absR, f) (1, l, T, O, V) = ((hs.map absR, f), 9)) := Lib.hid (fun e => HEQ.out (by rw [hm, hsl]; exact e))
    have HNE2 : Hid (¬ m = n6 → ∀ a, (applyM (hs.map absR, f) (1, l, T, O, V)).2 = 0 ∧ (applyM (hs.map absR, f) (1, l, T, O, V)).1.2 = f ∧ (hs.set i (((A5, n5, c5), L5), (a, RS), T6)).map absR = (applyM (hs.map absR, f) (1, l, T, O, V)).1.1) := Lib.hid (fun e a => HNE.out (by rw [hm, hsl]; exact e) a)
    have hm2 : m ≤ 1000 := by omega
    have hn6 : n6 ≤ 1000 := by omega
    have hsx := hh.2.2.1
    clear HEQ HNE hh hb2 K0 HK KW hown2 hc3 hrl hm x0 x1 y0 y1 y2 y3 y4 hcx
    obtain ⟨⟨x0, x1⟩, y0, y1, y2, y3, y4⟩ := HA.out.cells
    by_cases hq : m = n6
    · have HAP := Lib.hid (HEQ2.out hq)
      subst hq
      clear HEQ2 HNE2
      go_wp2_with (refine wpList_store_row rfl 28 _ _ rfl (w.heap.size + 2) #[.slice (some ⟨b, o, none⟩) n c, .int .i64 f] rfl rfl 28 _ HA.out.res info_S rfl (by simp [Value.oneCell']) ?_)
      obtain ⟨⟨r0, r1⟩, hz1, hz2⟩ := HA.out.done (some ⟨b, o, none⟩) n c f hs (HL.out.later HA.out.below)
      exact bodyPost_ret (v := .tuple #[.agg #[.slice (some ⟨b, o, none⟩) n c, .int .i64 f], .int .i64 9]) (by simp [results, Try.results19, go_sem, r0, r1]) rfl ⟨some ⟨b, o, none⟩, n, c, hs, by rw [HAP.out], hz1, by rw [HAP.out], hz2⟩
    · have HAP := Lib.hid (HNE2.out hq)
      have hq2 : ¬ (m : Int) = (n6 : Int) := by omega
      clear HEQ2 HNE2
      go_wp2_with fail
      refine (KC.out _ HA.out.below).mono ?_
      rintro e w3 ⟨vR, rfl, hown3, hb3⟩
      obtain ⟨gb, c', rfl, hgb, hgb2⟩ := hown3.form (by omega)
      have hz := HA.out.size
      have q0 := (hb3.block w.heap.size (by omega)).trans HA.out.st
      have q2 := (hb3.block (w.heap.size + 2) (by omega)).trans HA.out.res
      have hcap' : c' ≤ 9223372036854775807 ∧ n ≤ c' := by
        rcases hown3.2 with ⟨hv, _⟩ | ⟨g, cap, cur, hv, _, _, h1, h2, _⟩
        · cases hv
        · injection hv with _ _ hv; subst hv; exact ⟨h2, h1⟩
      obtain ⟨hcap', hle'⟩ := hcap'
      have g0 : w3.cell? ⟨w.heap.size, 0, none⟩ = some (.slice (some ⟨b, o, none⟩) n c) := by rw [cell_of_row _ _ _ _ _ _ q0]; rfl
      have gf : w3.frozen? ⟨w.heap.size, 0, none⟩ = false := frozen_of_row w3 _ 0 _ _ q0
      obtain ⟨w4, hw4⟩ : ∃ w4, w3.setCell ⟨w.heap.size, 0, none⟩ (.slice (some ⟨gb, 0, none⟩) n c') = w4 := ⟨_, rfl⟩
      have ho4 : ∀ j, j ≠ w.heap.size → w4.heap[j]? = w3.heap[j]? := fun j hj => by rw [← hw4]; exact heap_setCell_other _ _ _ _ hj
      have p0 : w4.heap[w.heap.size]? = some (.cells #[.slice (some ⟨gb, 0, none⟩) n c', .int .i64 f] 28 (0, 0)) := by rw [← hw4]; exact heap_setCell_same w3 _ 0 _ _ _ q0
      have p2 := (ho4 (w.heap.size + 2) (by omega)).trans q2
      have row4 := own_same (w' := w4) hown3 (fun j hj => ho4 j (by have h2 : gb = j := Option.some.inj hj; omega))
      have s0 : w4.cell? ⟨w.heap.size, 0, none⟩ = some (.slice (some ⟨gb, 0, none⟩) n c') := by rw [cell_of_row _ _ _ _ _ _ p0]; rfl
      have s1 : w4.cell? ⟨gb, i * 3 + 1, none⟩ = some (.slice A6 n6 c6) := by
        rw [row4.cellAt (i * 3 + 1) (by omega), flatMap_at encR_len hs i _ (List.getElem?_eq_getElem hi) 1 (by omega), HYY.out]; rfl
      have s2 := row4.frozenAt (i * 3 + 1)
      obtain ⟨w5, hw5⟩ : ∃ w5, w4.setCell ⟨gb, i * 3 + 1, none⟩ (.slice A3 m c3) = w5 := ⟨_, rfl⟩
      have ho5 : ∀ j, j ≠ gb → w5.heap[j]? = w4.heap[j]? := fun j hj => by rw [← hw5]; exact heap_setCell_other _ _ _ _ hj
      have r0 := (ho5 w.heap.size (by omega)).trans p0
      have r2 := (ho5 (w.heap.size + 2) (by omega)).trans p2
      have row5 := (row4.stored (i * 3 + 1) (hdV (A3, m, c3))).1
      have hw5' : w4.setCell ⟨gb, i * 3 + 1, none⟩ (hdV (A3, m, c3)) = w5 := hw5
      rw [hw5', HFS.out (A3, m, c3)] at row5
      obtain ⟨t0, t1⟩ : w5.cell? ⟨w.heap.size, 0, none⟩ = some (.slice (some ⟨gb, 0, none⟩) n c') ∧ w5.cell? ⟨w.heap.size, 1, none⟩ = some (.int .i64 f) := by
        refine ⟨?_, ?_⟩ <;> (rw [cell_of_row _ _ _ _ _ _ r0]; rfl)
      have hbw3 : Below w.heap.size w w3 := later HA.out.below hb3
      have hbw4 : Below w.heap.size w w4 := by rw [← hw4]; exact hbw3.setCell (Nat.le_refl _) _
      have hbw5 : Below w.heap.size w w5 := by rw [← hw5]; exact hbw4.setCell (by show w.heap.size ≤ gb; omega) _
      have hz5 : w.heap.size + 3 ≤ w5.heap.size := by rw [← hw5, ← hw4]; simp; have := hb3.size; omega
      have hown5 := own_same (w' := w5) HOW.out.1 (fun j hj => by
        have h2 := own_lt' HOW.out.1 j hj
        have h3 : w.heap.size + 3 ≤ j := Nat.le_trans hwz1.out h2.1
        exact (ho5 j (by omega)).trans ((ho4 j (by omega)).trans (hb3.block j h2.2)))
      have hSers : Sers w5 (some ⟨gb, 0, none⟩) n c' (hs.set i (((A5, n5, c5), L5), ((A3, m, c3), RS), T6)) := by
        obtain ⟨A', c9, hv, hS'⟩ := Sers.of_own row5 (by rw [List.length_set]; exact hln.symm) (fun x hx => by
          rcases List.mem_or_eq_of_mem_set hx with hx | rfl
          · exact (HL.out.ok x hx).later hbw5
          · obtain ⟨A7, c7, hv7, -, hc7⟩ := Comes.of_own hown5 (fun _ => rfl) (by decide) HOKS.out
            injection hv7 with e1 e2 e3
            subst e1 e3
            exact ⟨(HOKI.out.later hbw5).lab, hc7, HOKI.out.last⟩)
        injection hv with e1 e2 e3
        subst e1 e3
        exact hS'
      have HEND := Lib.hid (And.intro hSers (And.intro hbw5 r2))
      clear hown3 hb3 q0 q2 ho4 p0 p2 row4 ho5 r0 row5 hbw3 hbw4 hbw5 hz5 hown5 hSers hw5' x0 x1 y0 y1 y2 y3 y4
      go_wp2_with (refine wpList_store_row rfl 28 _ _ rfl (w.heap.size + 2) #[.slice (some ⟨gb, 0, none⟩) n c', .int .i64 f] rfl rfl 28 _ HEND.out.2.2 info_S rfl (by simp [Value.oneCell']) ?_)
      have hr := setRow_heap w5 (w.heap.size + 2) _ #[.slice (some ⟨gb, 0, none⟩) n c', .int .i64 f] 28 (0, 0) HEND.out.2.2
      have r0 : (w5.setRow (w.heap.size + 2) #[.slice (some ⟨gb, 0, none⟩) n c', .int .i64 f]).cell? ⟨w.heap.size + 2, 0, none⟩ = some (.slice (some ⟨gb, 0, none⟩) n c') := by rw [cell_of_row _ _ _ _ _ _ hr]; rfl
      have r1 : (w5.setRow (w.heap.size + 2) #[.slice (some ⟨gb, 0, none⟩) n c', .int .i64 f]).cell? ⟨w.heap.size + 2, 1, none⟩ = some (.int .i64 f) := by rw [cell_of_row _ _ _ _ _ _ hr]; rfl
      have hfin := HAP.out (A3, m, c3)
      exact bodyPost_ret (v := .tuple #[.agg #[.slice (some ⟨gb, 0, none⟩) n c', .int .i64 f], .int .i64 0]) (by simp [results, Try.results19, go_sem, r0, r1]) rfl ⟨some ⟨gb, 0, none⟩, n, c', _, by rw [hfin.1, hfin.2.1], HEND.out.1.off HEND.out.2.2 (alien_state none 0 0 0) (fun j hj => setRow_other w5 _ j _ hj) (by simp), hfin.2.2, below_setRow HEND.out.2.1 (by omega) _⟩
/-- truth.Apply. -/
theorem apply_any (A : Option Addr) (n c : Nat) (hs : List SerH) (f kd : Int) (A2 : Option Addr) (n2 c2 : Nat) (l : List Lab) (T O V : Int) (w : World) (hl : Sers w A n c hs) (hn : n ≤ 900) (hF : FewS hs) (hS : SmallS hs) (hl2 : Comes w 2 encL okL A2 n2 c2 l) (hf2 : fewB l = true) (hT : -9223372036854775808 ≤ T ∧ T ≤ 9223372036854775807) (hV : 0 ≤ V ∧ V < 18446744073709551616) :
    Calls Try.prog 19 #[.agg #[.slice A n c, .int .i64 f], .agg #[.int .i64 kd, .slice A2 n2 c2, .int .i64 T, .int .i64 O, .int .u64 V]] w (ApA (hs.map absR, f) (kd, l, T, O, V) w) := by
  by_cases h0 : kd = 0
  · subst h0; exact apply_0 A n c hs f A2 n2 c2 l T O V w hl hn hF hS hl2 hf2 hT hV
  by_cases h1 : kd = 1
  · subst h1; exact apply_1 A n c hs f A2 n2 c2 l T O V w hl hn hF hS hl2 hf2
  by_cases h2 : kd = 2
  · subst h2; exact apply_2 A n c hs f A2 n2 c2 l T O V w hl hn hF hS hl2 hf2 hT hV
  exact apply_else A n c hs f kd A2 n2 c2 l T O V w hl hn hF hS hl2 hf2 hT hV h0 h1 h2
end Go.Proofs.Ytdjgndnllaingaa.TrW
