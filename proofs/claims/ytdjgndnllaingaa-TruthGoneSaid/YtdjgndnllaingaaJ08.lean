/-
  match.All, alluviumref07.Fits, alluviumref07.All: THE WALKS.
  match.right, match.Check: THE WALKS.
  alluviumref06.Name, Value: THE WALKS.
  alluviumref06.Name, Value: THE WALKS (in XLbNm).
  alluviumref07.Right, AllRight, All: THE WALKS.
-/
import Derived.Test.YtdjgndnllaingaaJ07
import Derived.Test.YtdjgndnllaingaaJ06
import Derived.Lib.Hide
/-
  match.All, alluviumref07.Fits, alluviumref07.All: THE WALKS.
-/
namespace Go.Proofs.Ytdjgndnllaingaa.LabW
open Go.RowKit Go.Shelf LabM
def allB (ms : List Mat) (l : List Lab) : Bool := ms.all fun m => fitsB m l
theorem all1_any (m : Mat) (hm : okM m) (bl : Nat) (A : Option Addr) (n c : Nat) (l : List Lab) (W : World) (hc : W.cell? ⟨bl, 0, none⟩ = some (.slice A n c)) (hl : Comes W 2 encL okL A n c l) (hn : n ≤ 1000000) :
    Calls Try.prog 62 (#[.agg #[.int .i64 m.1, .string m.2.1, .string m.2.2]] ++ #[.pointer (some ⟨bl, 0, none⟩)]) W fun e W' => e = .returned (.bool (fitsB m l)) ∧ Below W.heap.size W W' := by
  have hf := fits_any m hm A n c l
  have HF := Lib.hid hf
  have HL := Lib.hid hl
  have hb : bl < W.heap.size := World.block_lt_of_cell? W _ hc
  obtain ⟨kd, nm, vl⟩ := m
  clear hf hl
  show Calls Try.prog 62 #[.agg #[.int .i64 kd, .string nm, .string vl], .pointer (some ⟨bl, 0, none⟩)] W _
  go_enter Try.func62, Try.ntmps62
  go_wp2_with fail
  refine (HF.out _ (HL.out.later ((Below.refl _ _).alloc (Nat.le_refl _) _)) hn).mono ?_
  rintro e w1 ⟨rfl, hb1⟩
  have HB := Lib.hid (show Below W.heap.size W w1 from ((Below.refl _ _).alloc (Nat.le_refl _) _).trans (hb1.mono (by simp)))
  clear hb1
  go_wp2_with fail
  go_ret
  exact ⟨rfl, HB.out⟩
theorem filter_all {α : Type} (p : α → Bool) (l : List α) : decide ((l.filter p).length = l.length) = l.all p := by
  rw [Bool.eq_iff_iff, decide_eq_true_iff, List.all_eq_true, List.length_filter_eq_length_iff]
theorem all_any (A1 : Option Addr) (n1 c1 : Nat) (ms : List Mat) (A : Option Addr) (n c : Nat) (l : List Lab) (w : World) (hms : Comes w 3 encM okM A1 n1 c1 ms) (hl : Comes w 2 encL okL A n c l) (hn1 : n1 ≤ 1000000) (hn : n ≤ 1000000) :
    Calls Try.prog 46 #[.slice A1 n1 c1, .slice A n c] w fun e w' => e = .returned (.bool (allB ms l)) ∧ Below w.heap.size w w' := by
  have HM := Lib.hid hms
  have HL := Lib.hid hl
  have hcap := hms.cap
  have hle := hms.le
  unfold maxLen at hcap
  clear hms hl
  go_enter Try.func46, Try.ntmps46
  go_wp2_with fail
  obtain ⟨w0, hw0⟩ : ∃ w0, w.alloc (.cells #[.slice A n c] 35) = w0 := ⟨_, rfl⟩
  have hb0 : Below w.heap.size w w0 := by rw [← hw0]; exact (Below.refl _ _).alloc (Nat.le_refl _) _
  have hc0 : w0.heap[w.heap.size]? = some (.cells #[.slice A n c] 35 (0, 0)) := by rw [← hw0]; exact heap_alloc_new w _
  have hc1 : w0.cell? ⟨w.heap.size, 0, none⟩ = some (.slice A n c) := by rw [cell_of_row w0 _ _ _ _ _ hc0]; rfl
  rw [hw0]
  have HB0 := Lib.hid hb0
  have HC := Lib.hid hc1
  clear hw0 hb0 hc0 hc1
  refine (pickM_any 62 #[.pointer (some ⟨w.heap.size, 0, none⟩)] (fun m => fitsB m l) (enters_of Try.func62 (by kernel_rfl) rfl) A1 n1 c1 ms _ (HM.out.later HB0.out) hn1
    (fun x hx W hW => all1_any x (HM.out.ok x hx) w.heap.size A n c l W (by rw [← HC.out]; exact hW.cell (p := ⟨w.heap.size, 0, none⟩) (World.block_lt_of_cell? w0 _ HC.out)) ((HL.out.later HB0.out).later hW) hn)).mono ?_
  rintro e w2 ⟨v, rfl, hown, hb2⟩
  obtain ⟨A2, c2, rfl, -, -⟩ := Comes.of_own (okA := fun _ => True) hown (fun _ => rfl) (by decide) (fun _ _ => trivial)
  have hall := filter_all (fun m : Mat => fitsB m l) ms
  rw [HM.out.len] at hall
  generalize (ms.filter fun m => fitsB m l).length = q at *
  have HB2 := Lib.hid (later HB0.out hb2)
  have HA := Lib.hid hall
  clear hown hb2 hall
  go_wp2_with fail
  go_ret
  refine ⟨?_, HB2.out⟩
  show Ending.returned (.bool ((q : Int) == (n1 : Int))) = _
  rw [allB, ← HA.out]
  congr 2
  rw [Bool.eq_iff_iff, beq_iff_eq, decide_eq_true_iff]
  omega
end Go.Proofs.Ytdjgndnllaingaa.LabW
/-
  match.right, match.Check: THE WALKS.
-/
namespace Go.Proofs.Ytdjgndnllaingaa.LabW
open Go.RowKit Go.Shelf LabM
/-- May a matcher be? -/
def rightB (m : Mat) : Bool := decide (0 ≤ m.1) && decide (m.1 ≤ 3) && nameB m.2.1.data.toList && (m.2.2.data.toList.isEmpty || decide (m.1 < 3) && valueB m.2.2.data.toList)
def checkMB (ms : List Mat) : Bool := ms.all rightB && decide (ms.length ≤ 8)
theorem checkB_one (nm vl : ByteArray) : checkB [(nm, vl)] = (nameB nm.data.toList && valueB vl.data.toList) := by
  unfold checkB chkL chkL
  have e : nameB nm.data.toList = true → ltB [] nm.data.toList = true := by
    intro h
    cases hh : nm.data.toList with
    | nil => rw [hh] at h; cases h
    | cons a t => rfl
  cases hn : nameB nm.data.toList
  · simp
  · rw [e hn]; simp
theorem dash_le : (⟨#[45]⟩ : ByteArray).size ≤ maxLen := by decide
theorem dash_ok : valueB (⟨#[45]⟩ : ByteArray).data.toList = true := by decide
set_option maxHeartbeats 2000000 in
theorem right_any (m : Mat) (hm : okM m) (w : World) :
    Calls Try.prog 72 #[.agg #[.int .i64 m.1, .string m.2.1, .string m.2.2]] w fun e w' => e = .returned (.bool (rightB m)) ∧ Below w.heap.size w w' := by
  obtain ⟨kd, nm, vl⟩ := m
  obtain ⟨k0, k1, hnm, hvl⟩ := hm
  simp only [] at k0 k1 hnm hvl ⊢
  by_cases hlo : kd < 0
  · have hr : rightB (kd, nm, vl) = false := by unfold rightB; rw [decide_eq_false (by omega)]; simp
    rw [hr]
    clear hr
    go_enter Try.func72, Try.ntmps72
    go_wp2_with fail
    go_ret
    exact ⟨rfl, (Below.refl _ _).alloc (Nat.le_refl _) _⟩
  · by_cases hhi : 4 ≤ kd
    · have hr : rightB (kd, nm, vl) = false := by unfold rightB; rw [decide_eq_false (p := kd ≤ 3) (by omega)]; simp
      rw [hr]
      have hge : 0 ≤ kd := by omega
      clear hr hlo
      go_enter Try.func72, Try.ntmps72
      go_wp2_with fail
      go_ret
      exact ⟨rfl, (Below.refl _ _).alloc (Nat.le_refl _) _⟩
    · have hge : 0 ≤ kd := by omega
      have hle : kd ≤ 3 := by omega
      have hr : rightB (kd, nm, vl) = (nameB nm.data.toList && (vl.data.toList.isEmpty || decide (kd < 3) && valueB vl.data.toList)) := by
        unfold rightB; rw [decide_eq_true hge, decide_eq_true hle]; simp
      by_cases hem : vl.toList = []
      · rw [em_list hem, Bool.true_or, Bool.and_true] at hr
        have hc := checkB_one nm ⟨#[45]⟩
        rw [dash_ok, Bool.and_true, ← hr] at hc
        by_cases k3 : kd = 3
        · subst k3
          have HR := Lib.hid hc
          clear hr hc hlo hhi
          go_enter Try.func72, Try.ntmps72
          go_wp2_with fail
          refine (check_any _ 1 1 [(nm, ⟨#[45]⟩)] _ (Comes.block (heap_at _ _ (by simp)) rfl (fun _ => rfl) rfl (Nat.le_refl _) (by decide) (fun x hx => by
            obtain rfl := List.mem_singleton.1 hx
            exact ⟨hnm, dash_le⟩))).mono ?_
          rintro e w1 ⟨rfl, hb1⟩
          rw [HR.out]
          have hb2 : Below w.heap.size w w1 := (((Below.refl _ _).alloc (Nat.le_refl _) _).alloc (by simp) _).trans (hb1.mono (by simp; omega))
          have HB := Lib.hid hb2
          clear hb1 hb2 HR
          cases hrr : rightB (3, nm, vl) <;> first | rw [errN_true] | rw [errN_false]
          · have HRR := Lib.hid hrr
            clear hrr
            go_wp2_with fail
            go_ret
            exact ⟨by rw [HRR.out]; rfl, HB.out⟩
          · have HRR := Lib.hid hrr
            clear hrr
            go_wp2_with fail
            go_ret
            exact ⟨by rw [HRR.out]; rfl, HB.out⟩
        · have e3 : (kd == 3) = false := by simpa using k3
          have HR := Lib.hid hc
          clear hr hc hlo hhi k3
          go_enter Try.func72, Try.ntmps72
          go_wp2_with fail
          refine (check_any _ 1 1 [(nm, ⟨#[45]⟩)] _ (Comes.block (heap_at _ _ (by simp)) rfl (fun _ => rfl) rfl (Nat.le_refl _) (by decide) (fun x hx => by
            obtain rfl := List.mem_singleton.1 hx
            exact ⟨hnm, dash_le⟩))).mono ?_
          rintro e w1 ⟨rfl, hb1⟩
          rw [HR.out]
          have hb2 : Below w.heap.size w w1 := (((Below.refl _ _).alloc (Nat.le_refl _) _).alloc (by simp) _).trans (hb1.mono (by simp; omega))
          have HB := Lib.hid hb2
          clear hb1 hb2 HR
          cases hrr : rightB (kd, nm, vl) <;> first | rw [errN_true] | rw [errN_false]
          · have HRR := Lib.hid hrr
            clear hrr
            go_wp2_with fail
            go_ret
            exact ⟨by rw [HRR.out]; rfl, HB.out⟩
          · have HRR := Lib.hid hrr
            clear hrr
            go_wp2_with fail
            go_ret
            exact ⟨by rw [HRR.out]; rfl, HB.out⟩
      · rw [ne_list hem, Bool.false_or] at hr
        have hem2 : vl.toList.isEmpty = false := by rw [toList_data]; exact ne_list hem
        by_cases k3 : kd = 3
        · subst k3
          rw [decide_eq_false (by decide), Bool.false_and, Bool.and_false] at hr
          rw [hr]
          clear hr hlo hhi
          go_enter Try.func72, Try.ntmps72
          go_wp2_with fail
          go_ret
          exact ⟨rfl, (Below.refl _ _).alloc (Nat.le_refl _) _⟩
        · have e3 : (kd == 3) = false := by simpa using k3
          rw [decide_eq_true (show kd < 3 by omega), Bool.true_and] at hr
          have hc := checkB_one nm vl
          rw [← hr] at hc
          have HR := Lib.hid hc
          clear hr hc hlo hhi k3
          go_enter Try.func72, Try.ntmps72
          go_wp2_with fail
          refine (check_any _ 1 1 [(nm, vl)] _ (Comes.block (heap_at _ _ (by simp)) rfl (fun _ => rfl) rfl (Nat.le_refl _) (by decide) (fun x hx => by
            obtain rfl := List.mem_singleton.1 hx
            exact ⟨hnm, hvl⟩))).mono ?_
          rintro e w1 ⟨rfl, hb1⟩
          rw [HR.out]
          have hb2 : Below w.heap.size w w1 := (((Below.refl _ _).alloc (Nat.le_refl _) _).alloc (by simp) _).trans (hb1.mono (by simp; omega))
          have HB := Lib.hid hb2
          clear hb1 hb2 HR
          cases hrr : rightB (kd, nm, vl) <;> first | rw [errN_true] | rw [errN_false]
          · have HRR := Lib.hid hrr
            clear hrr
            go_wp2_with fail
            go_ret
            exact ⟨by rw [HRR.out]; rfl, HB.out⟩
          · have HRR := Lib.hid hrr
            clear hrr
            go_wp2_with fail
            go_ret
            exact ⟨by rw [HRR.out]; rfl, HB.out⟩
theorem check_filter {α : Type} (p : α → Bool) (l : List α) : decide ((l.filter p).length < l.length) = !l.all p := by
  have h := filter_all p l
  have hle := List.length_filter_le p l
  rw [← h, Bool.eq_iff_iff]
  simp only [decide_eq_true_eq, Bool.not_eq_true', decide_eq_false_iff_not]
  omega
theorem mcheck_any (A : Option Addr) (n c : Nat) (ms : List Mat) (w : World) (hms : Comes w 3 encM okM A n c ms) :
    Calls Try.prog 60 #[.slice A n c] w fun e w' => e = .returned (.int .i64 (errN (checkMB ms) 1)) ∧ Below w.heap.size w w' := by
  have HM := Lib.hid hms
  have hcap := hms.cap
  have hle := hms.le
  have hln := hms.len
  unfold maxLen at hcap
  by_cases h8 : 8 < n
  · have hno : checkMB ms = false := by unfold checkMB; rw [decide_eq_false (by omega)]; simp
    rw [hno]
    clear hms hno hln
    go_enter Try.func60, Try.ntmps60
    go_wp2_with fail
    go_ret
    exact ⟨rfl, Below.refl _ _⟩
  · have hyes : checkMB ms = ms.all rightB := by unfold checkMB; rw [decide_eq_true (by omega)]; simp
    rw [hyes]
    clear hms hyes hln
    go_enter Try.func60, Try.ntmps60
    go_wp2_with fail
    refine (pickM_any 72 #[] rightB (enters_of Try.func72 (by kernel_rfl) rfl) A n c ms _ HM.out (by omega) (fun x hx W hW => right_any x (HM.out.ok x hx) W)).mono ?_
    rintro e w2 ⟨v, rfl, hown, hb2⟩
    obtain ⟨A2, c2, rfl, -, -⟩ := Comes.of_own (okA := fun _ => True) hown (fun _ => rfl) (by decide) (fun _ _ => trivial)
    have hall := check_filter rightB ms
    rw [HM.out.len] at hall
    generalize (ms.filter rightB).length = q at *
    have HB2 := Lib.hid hb2
    cases hA : ms.all rightB
    · rw [hA] at hall
      have hq : q < n := of_decide_eq_true hall
      have hqd : decide (q < n) = true := hall
      have HA := Lib.hid hA
      clear hown hb2 hall hA
      go_wp2_with fail
      go_ret
      exact ⟨by rw [HA.out]; rfl, HB2.out⟩
    · rw [hA] at hall
      have hq : ¬ q < n := of_decide_eq_false hall
      have hqd : decide (q < n) = false := hall
      have HA := Lib.hid hA
      clear hown hb2 hall hA
      go_wp2_with fail
      go_ret
      exact ⟨by rw [HA.out]; rfl, HB2.out⟩
end Go.Proofs.Ytdjgndnllaingaa.LabW
/-
  alluviumref06.Name, Value: THE WALKS.
-/
namespace Go.Proofs.Ytdjgndnllaingaa.LabW
open Go.RowKit Go.Shelf LabM
theorem mem_byte (s : ByteArray) (k : Nat) (h : k < s.size) : s[k] ∈ s.data.toList := by
  rw [ByteArray.getElem_eq_getElem_data]; simp
theorem len_bytes (s : ByteArray) : s.data.toList.length = s.size := by simp
def nmB (c : UInt8) : Bool := lowB c || digitB c
theorem byte_cases (c : UInt8) : ((c.toNat : Int) < 48 ∧ nmB c = false) ∨ ((48 ≤ (c.toNat : Int) ∧ (c.toNat : Int) ≤ 57) ∧ nmB c = true) ∨ ((58 ≤ (c.toNat : Int) ∧ (c.toNat : Int) ≤ 94) ∧ nmB c = false) ∨ ((c.toNat : Int) = 95 ∧ nmB c = true) ∨ ((c.toNat : Int) = 96 ∧ nmB c = false) ∨
    ((97 ≤ (c.toNat : Int) ∧ (c.toNat : Int) ≤ 122) ∧ nmB c = true) ∨ (123 ≤ (c.toNat : Int) ∧ nmB c = false) := by
  have h : nmB c = decide (((97 ≤ c.toNat ∧ c.toNat ≤ 122) ∨ c.toNat = 95) ∨ (48 ≤ c.toNat ∧ c.toNat ≤ 57)) := by
    unfold nmB lowB digitB
    simp only [Bool.decide_or, Bool.decide_and]
  rw [h]
  simp only [decide_eq_true_eq, decide_eq_false_iff_not]
  omega
theorem nameB_loop (s : ByteArray) (h0 : s.data.toList.isEmpty = false) (h48 : s.size ≤ 48) (hd : (s.data.toList.take 1).all digitB = false) : nameB s.data.toList = s.data.toList.all nmB := by
  unfold nameB
  rw [hd, h0, len_bytes, decide_eq_true h48]
  simp only [Bool.not_false, Bool.and_true]
  rfl
theorem shown_cases (c : UInt8) : ((c.toNat : Int) < 32 ∧ shownB c = false) ∨ ((32 ≤ (c.toNat : Int) ∧ (c.toNat : Int) ≤ 126) ∧ shownB c = true) ∨ ((32 ≤ (c.toNat : Int) ∧ 126 < (c.toNat : Int)) ∧ shownB c = false) := by
  have h : shownB c = decide (32 ≤ c.toNat ∧ c.toNat ≤ 126) := by unfold shownB; rw [Bool.decide_and]
  rw [h]
  simp only [decide_eq_true_eq, decide_eq_false_iff_not]
  omega
end Go.Proofs.Ytdjgndnllaingaa.LabW
/-
  alluviumref06.Name, Value: THE WALKS (in XLbNm).
-/

/-
  alluviumref07.Right, AllRight, All: THE WALKS.
-/
namespace Go.Proofs.Ytdjgndnllaingaa.LabW
open Go.RowKit Go.Shelf LabM
end Go.Proofs.Ytdjgndnllaingaa.LabW
