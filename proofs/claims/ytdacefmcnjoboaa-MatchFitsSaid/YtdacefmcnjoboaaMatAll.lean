/-
  match.All, alluviumref07.Fits, alluviumref07.All: THE WALKS.
-/
import Derived.Test.YtdacefmcnjoboaaMatFits
namespace Go.Proofs.Ytdacefmcnjoboaa.LabW
open Go.RowKit Go.Shelf LabM
def allB (ms : List Mat) (l : List Lab) : Bool := ms.all fun m => fitsB m l
theorem all1_any (m : Mat) (hm : okM m) (bl : Nat) (A : Option Addr) (n c : Nat) (l : List Lab) (W : World) (hc : W.cell? ⟨bl, 0, none⟩ = some (.slice A n c)) (hl : Comes W 2 encL okL A n c l) (hn : n ≤ 1000000) :
    Calls Try.prog 31 (#[.agg #[.int .i64 m.1, .string m.2.1, .string m.2.2]] ++ #[.pointer (some ⟨bl, 0, none⟩)]) W fun e W' => e = .returned (.bool (fitsB m l)) ∧ Below W.heap.size W W' := by
  have hf := fits_any m hm A n c l
  have HF := Lib.hid hf
  have HL := Lib.hid hl
  have hb : bl < W.heap.size := World.block_lt_of_cell? W _ hc
  obtain ⟨kd, nm, vl⟩ := m
  clear hf hl
  show Calls Try.prog 31 #[.agg #[.int .i64 kd, .string nm, .string vl], .pointer (some ⟨bl, 0, none⟩)] W _
  go_enter Try.func31, Try.ntmps31
  go_wp2_with fail
  refine (HF.out _ (HL.out.later ((Below.refl _ _).alloc (Nat.le_refl _) _)) hn).mono ?_
  rintro e w1 ⟨rfl, hb1⟩
  have HB := Lib.hid (show Below W.heap.size W w1 from ((Below.refl _ _).alloc (Nat.le_refl _) _).trans (hb1.mono (by simp)))
  clear hb1
  go_wp2_with fail
  go_ret
  exact ⟨rfl, HB.out⟩
theorem filter_all {α : Type} (p : α → Bool) (l : List α) : decide ((l.filter p).length = l.length) = l.all p := by
  rw [Bool.eq_iff_iff, decide_eq_true_iff, List.all_eq_true, List.length_filter_eq_length_iff]
theorem all_any (A1 : Option Addr) (n1 c1 : Nat) (ms : List Mat) (A : Option Addr) (n c : Nat) (l : List Lab) (w : World) (hms : Comes w 3 encM okM A1 n1 c1 ms) (hl : Comes w 2 encL okL A n c l) (hn1 : n1 ≤ 1000000) (hn : n ≤ 1000000) :
    Calls Try.prog 14 #[.slice A1 n1 c1, .slice A n c] w fun e w' => e = .returned (.bool (allB ms l)) ∧ Below w.heap.size w w' := by
  have HM := Lib.hid hms
  have HL := Lib.hid hl
  have hcap := hms.cap
  have hle := hms.le
  unfold maxLen at hcap
  clear hms hl
  go_enter Try.func14, Try.ntmps14
  go_wp2_with fail
  obtain ⟨w0, hw0⟩ : ∃ w0, w.alloc (.cells #[.slice A n c] 28) = w0 := ⟨_, rfl⟩
  have hb0 : Below w.heap.size w w0 := by rw [← hw0]; exact (Below.refl _ _).alloc (Nat.le_refl _) _
  have hc0 : w0.heap[w.heap.size]? = some (.cells #[.slice A n c] 28 (0, 0)) := by rw [← hw0]; exact heap_alloc_new w _
  have hc1 : w0.cell? ⟨w.heap.size, 0, none⟩ = some (.slice A n c) := by rw [cell_of_row w0 _ _ _ _ _ hc0]; rfl
  rw [hw0]
  have HB0 := Lib.hid hb0
  have HC := Lib.hid hc1
  clear hw0 hb0 hc0 hc1
  refine (pickM_any 31 #[.pointer (some ⟨w.heap.size, 0, none⟩)] (fun m => fitsB m l) (enters_of Try.func31 (by kernel_rfl) rfl) A1 n1 c1 ms _ (HM.out.later HB0.out) hn1
    (fun x hx W hW => all1_any x (HM.out.ok x hx) w.heap.size A n c l W (by rw [← HC.out]; exact hW.cell (p := ⟨w.heap.size, 0, none⟩) (World.block_lt_of_cell? w0 _ HC.out)) ((HL.out.later HB0.out).later hW) hn)).mono ?_
  rintro e w2 ⟨v, rfl, hown, hb2⟩
  obtain ⟨A2, c2, rfl, -, -⟩ := Comes.of_own (okA := fun _ => True) hown (fun _ => rfl) (by decide) (fun _ _ => trivial)
  have hall := filter_all (fun m : Mat => fitsB m l) ms
  rw [HM.out.len] at hall
  generalize (ms.filter fun m => fitsB m l).length = q at *
  have HB2 := Lib.hid (later HB0.out hb2)
  have HA := Lib.hid hall
  clear hown hb2 hall
  go_wp2_with fail
  go_ret
  refine ⟨?_, HB2.out⟩
  show Ending.returned (.bool ((q : Int) == (n1 : Int))) = _
  rw [allB, ← HA.out]
  congr 2
  rw [Bool.eq_iff_iff, beq_iff_eq, decide_eq_true_iff]
  omega
set_option maxHeartbeats 2000000 in
theorem rfits_any (m : Mat) (hm : okM m) (A : Option Addr) (n c : Nat) (l : List Lab) (w : World) (hl : Comes w 2 encL okL A n c l) (hn : n ≤ 1000000) :
    Calls Try.prog 17 #[.agg #[.int .i64 m.1, .string m.2.1, .string m.2.2], .slice A n c] w fun e w' => e = .returned (.bool (fitsB m l)) ∧ Below w.heap.size w w' := by
  obtain ⟨kd, nm, vl⟩ := m
  obtain ⟨-, -, hnm, hvl⟩ := hm
  simp only [] at hnm hvl ⊢
  have hgs := getL_size l nm hl.ok
  have hcap := hl.cap
  have hle := hl.le
  unfold maxLen at hcap
  have HL := Lib.hid hl
  have HS := Lib.hid (And.intro hnm (And.intro hvl hgs))
  clear hl hnm hvl hgs
  go_enter Try.func17, Try.ntmps17
  go_wp2_with fail
  refine (rget_any A n c l nm _ (HL.out.later ((Below.refl _ _).alloc (Nat.le_refl _) _))).mono ?_
  rintro e w1 ⟨rfl, hb1⟩
  have hb2 : Below w.heap.size w w1 := ((Below.refl _ _).alloc (Nat.le_refl _) _).trans (hb1.mono (by simp))
  have hbox : w1.heap[w.heap.size]? = some (.cells #[.int .i64 kd, .string nm, .string vl] 32 (0, 0)) := (hb1.block _ (by simp)).trans (heap_alloc_new w _)
  have HB := Lib.hid hb2
  have HBX := Lib.hid hbox
  clear hb1 hb2 hbox
  obtain ⟨V, hV⟩ : ∃ V, getL l nm = V := ⟨_, rfl⟩
  rw [hV]
  rw [hV] at HS
  have HV := Lib.hid hV
  clear hV
  go_wp2_with fail
  go_loopw [6, 7] (fun v6 v7 wr => ∃ k : Nat, k ≤ n ∧ v7 = .int .i64 k ∧ v6 = .bool (thereB (l.take k) nm) ∧ Below w1.heap.size w1 wr) (fun _ v7 _ => n - (intOf v7).toNat)
  case atStart => exact ⟨0, Nat.zero_le _, rfl, rfl, Below.refl _ _⟩
  case round =>
    obtain ⟨k, hk, rfl, rfl, ho⟩ := hrel
    have hln := HL.out.len
    have hB : Below w.heap.size w wr := later HB.out ho
    have hbx : wr.heap[w.heap.size]? = some (.cells #[.int .i64 kd, .string nm, .string vl] 32 (0, 0)) := (ho.block _ (Array.getElem?_eq_some_iff.1 HBX.out).1).trans HBX.out
    have hx0 : wr.cell? ⟨w.heap.size, 0, none⟩ = some (.int .i64 kd) := by rw [cell_of_row wr _ _ _ _ _ hbx]; rfl
    have hx1 : wr.cell? ⟨w.heap.size, 1, none⟩ = some (.string nm) := by rw [cell_of_row wr _ _ _ _ _ hbx]; rfl
    have hx2 : wr.cell? ⟨w.heap.size, 2, none⟩ = some (.string vl) := by rw [cell_of_row wr _ _ _ _ _ hbx]; rfl
    clear hbx
    by_cases hlt : k < n
    · have hkl : k < l.length := by omega
      obtain ⟨b, o, rfl, hcs⟩ := lab_cells HL.out.lies hkl
      obtain ⟨hc0, hc1⟩ := hcs _ hB
      have hts : thereB (l.take (k + 1)) nm = (thereB (l.take k) nm || (l[k].1.toList == nm.toList)) := by unfold thereB; rw [take_snocL l k hkl, List.any_append]; simp only [List.any_cons, List.any_nil, Bool.or_false]
      generalize l[k] = x at *
      obtain ⟨x1, x2⟩ := x
      simp only [] at hc0 hc1 hts
      have HO := Lib.hid ho
      have HT := Lib.hid hts
      have i0 : (0 : Int) ≤ (k : Int) := by omega
      have i1 : (k : Int) < (n : Int) := by omega
      clear ho hln hcs hts hB
      cases hth : thereB (l.take k) nm
      · rw [hth, Bool.false_or] at HT
        clear hth
        go_wp2_with fail
        go_quiet (fail)
        go_wp2_with fail
        go_roundw
        case rel => exact ⟨k + 1, by omega, by go_num, by rw [HT.out], HO.out.trans ⟨rfl, rfl, rfl, Nat.le_refl _, fun _ _ => rfl⟩⟩
        case measure => simp [intOf]; omega
      · rw [hth, Bool.true_or] at HT
        clear hth
        go_wp2_with fail
        go_quiet (fail)
        go_wp2_with fail
        go_roundw
        case rel => exact ⟨k + 1, by omega, by go_num, by rw [HT.out], HO.out.trans ⟨rfl, rfl, rfl, Nat.le_refl _, fun _ _ => rfl⟩⟩
        case measure => simp [intOf]; omega
    · obtain rfl : k = n := by omega
      rw [List.take_of_length_le (by omega)]
      obtain ⟨T, hT⟩ : ∃ T, thereB l nm = T := ⟨_, rfl⟩
      rw [hT]
      have HT := Lib.hid hT
      have HO := Lib.hid hB
      clear ho hT hB
      by_cases k0 : kd = 0
      · subst k0
        go_wp2_with fail
        go_ret
        exact ⟨by rw [fitsB_0, HV.out]; rfl, HO.out⟩
      · have e0 : (kd == 0) = false := by simpa using k0
        by_cases k1 : kd = 1
        · subst k1
          clear k0 e0
          go_wp2_with fail
          go_ret
          exact ⟨by rw [fitsB_1, HV.out]; rfl, HO.out⟩
        · have e1 : (kd == 1) = false := by simpa using k1
          by_cases k2 : kd = 2
          · subst k2
            clear k0 e0 k1 e1
            have hss := HS.out
            unfold maxLen at hss
            obtain ⟨hss1, hss2, hss3⟩ := hss
            by_cases h : vl.size ≤ V.size
            · have hsl := slice_to (P := Try.prog) Try.underlying9 V (vl.size : Int) vl.size rfl h
              have hd : prefB V vl = ((V.extract 0 vl.size).toList == vl.toList) := by unfold prefB; rw [decide_eq_true h, Bool.true_and]
              have hc : (vl.size : Int) ≤ (V.size : Int) := by omega
              have hd0 : decide (vl.size ≤ V.size) = true := decide_eq_true h
              generalize V.extract 0 vl.size = x at *
              have HD := Lib.hid hd
              clear hd h
              go_wp2_with fail
              go_quiet (fail)
              go_wp2_with fail
              go_ret
              exact ⟨by rw [fitsB_2, HV.out, HD.out]; rfl, HO.out.trans ⟨rfl, rfl, rfl, Nat.le_refl _, fun _ _ => rfl⟩⟩
            · have hd : prefB V vl = false := by unfold prefB; rw [decide_eq_false h, Bool.false_and]
              have hc : ¬ (vl.size : Int) ≤ (V.size : Int) := by omega
              have hd0 : decide (vl.size ≤ V.size) = false := decide_eq_false h
              have HD := Lib.hid hd
              clear hd h
              go_wp2_with fail
              go_quiet (fail)
              go_wp2_with fail
              go_ret
              exact ⟨by rw [fitsB_2, HV.out, HD.out]; rfl, HO.out.trans ⟨rfl, rfl, rfl, Nat.le_refl _, fun _ _ => rfl⟩⟩
          · have e2 : (kd == 2) = false := by simpa using k2
            by_cases k3 : kd = 3
            · subst k3
              clear k0 e0 k1 e1 k2 e2
              go_wp2_with fail
              go_ret
              exact ⟨by rw [fitsB_3, HT.out]; rfl, HO.out⟩
            · have e3 : (kd == 3) = false := by simpa using k3
              go_wp2_with fail
              go_ret
              exact ⟨by rw [fitsB_no kd nm vl l k0 k1 k2 k3]; rfl, HO.out⟩
end Go.Proofs.Ytdacefmcnjoboaa.LabW
