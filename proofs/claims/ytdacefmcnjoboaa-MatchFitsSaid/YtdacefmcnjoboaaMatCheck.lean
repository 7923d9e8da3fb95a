/-
  match.right, match.Check: THE WALKS.
-/
import Derived.Test.YtdacefmcnjoboaaLabChk
import Derived.Test.YtdacefmcnjoboaaMatAll
namespace Go.Proofs.Ytdacefmcnjoboaa.LabW
open Go.RowKit Go.Shelf LabM
/-- May a matcher be? -/
def rightB (m : Mat) : Bool := decide (0 ≤ m.1) && decide (m.1 ≤ 3) && nameB m.2.1.data.toList && (m.2.2.data.toList.isEmpty || decide (m.1 < 3) && valueB m.2.2.data.toList)
def checkMB (ms : List Mat) : Bool := ms.all rightB && decide (ms.length ≤ 8)
theorem checkB_one (nm vl : ByteArray) : checkB [(nm, vl)] = (nameB nm.data.toList && valueB vl.data.toList) := by
  unfold checkB chkL chkL
  have e : nameB nm.data.toList = true → ltB [] nm.data.toList = true := by
    intro h
    cases hh : nm.data.toList with
    | nil => rw [hh] at h; cases h
    | cons a t => rfl
  cases hn : nameB nm.data.toList
  · simp
  · rw [e hn]; simp
theorem dash_le : (⟨#[45]⟩ : ByteArray).size ≤ maxLen := by decide
theorem dash_ok : valueB (⟨#[45]⟩ : ByteArray).data.toList = true := by decide
theorem ne_list {s : ByteArray} (h : ¬ s.toList = []) : s.data.toList.isEmpty = false := by
  rw [← toList_data]
  cases e : s.toList with
  | nil => exact absurd e h
  | cons => rfl
theorem em_list {s : ByteArray} (h : s.toList = []) : s.data.toList.isEmpty = true := by rw [← toList_data, h]; rfl
set_option maxHeartbeats 2000000 in
theorem right_any (m : Mat) (hm : okM m) (w : World) :
    Calls Try.prog 37 #[.agg #[.int .i64 m.1, .string m.2.1, .string m.2.2]] w fun e w' => e = .returned (.bool (rightB m)) ∧ Below w.heap.size w w' := by
  obtain ⟨kd, nm, vl⟩ := m
  obtain ⟨k0, k1, hnm, hvl⟩ := hm
  simp only [] at k0 k1 hnm hvl ⊢
  by_cases hlo : kd < 0
  · have hr : rightB (kd, nm, vl) = false := by unfold rightB; rw [decide_eq_false (by omega)]; simp
    rw [hr]
    clear hr
    go_enter Try.func37, Try.ntmps37
    go_wp2_with fail
    go_ret
    exact ⟨rfl, (Below.refl _ _).alloc (Nat.le_refl _) _⟩
  · by_cases hhi : 4 ≤ kd
    · have hr : rightB (kd, nm, vl) = false := by unfold rightB; rw [decide_eq_false (p := kd ≤ 3) (by omega)]; simp
      rw [hr]
      have hge : 0 ≤ kd := by omega
      clear hr hlo
      go_enter Try.func37, Try.ntmps37
      go_wp2_with fail
      go_ret
      exact ⟨rfl, (Below.refl _ _).alloc (Nat.le_refl _) _⟩
    · have hge : 0 ≤ kd := by omega
      have hle : kd ≤ 3 := by omega
      have hr : rightB (kd, nm, vl) = (nameB nm.data.toList && (vl.data.toList.isEmpty || decide (kd < 3) && valueB vl.data.toList)) := by
        unfold rightB; rw [decide_eq_true hge, decide_eq_true hle]; simp
      by_cases hem : vl.toList = []
      · rw [em_list hem, Bool.true_or, Bool.and_true] at hr
        have hc := checkB_one nm ⟨#[45]⟩
        rw [dash_ok, Bool.and_true, ← hr] at hc
        by_cases k3 : kd = 3
        · subst k3
          have HR := Lib.hid hc
          clear hr hc hlo hhi
          go_enter Try.func37, Try.ntmps37
          go_wp2_with fail
          refine (check_any _ 1 1 [(nm, ⟨#[45]⟩)] _ (Comes.block (heap_at _ _ (by simp)) rfl (fun _ => rfl) rfl (Nat.le_refl _) (by decide) (fun x hx => by
            obtain rfl := List.mem_singleton.1 hx
            exact ⟨hnm, dash_le⟩))).mono ?_
          rintro e w1 ⟨rfl, hb1⟩
          rw [HR.out]
          have hb2 : Below w.heap.size w w1 := (((Below.refl _ _).alloc (Nat.le_refl _) _).alloc (by simp) _).trans (hb1.mono (by simp; omega))
          have HB := Lib.hid hb2
          clear hb1 hb2 HR
          cases hrr : rightB (3, nm, vl) <;> first | rw [errN_true] | rw [errN_false]
          · have HRR := Lib.hid hrr
            clear hrr
            go_wp2_with fail
            go_ret
            exact ⟨by rw [HRR.out]; rfl, HB.out⟩
          · have HRR := Lib.hid hrr
            clear hrr
            go_wp2_with fail
            go_ret
            exact ⟨by rw [HRR.out]; rfl, HB.out⟩
        · have e3 : (kd == 3) = false := by simpa using k3
          have HR := Lib.hid hc
          clear hr hc hlo hhi k3
          go_enter Try.func37, Try.ntmps37
          go_wp2_with fail
          refine (check_any _ 1 1 [(nm, ⟨#[45]⟩)] _ (Comes.block (heap_at _ _ (by simp)) rfl (fun _ => rfl) rfl (Nat.le_refl _) (by decide) (fun x hx => by
            obtain rfl := List.mem_singleton.1 hx
            exact ⟨hnm, dash_le⟩))).mono ?_
          rintro e w1 ⟨rfl, hb1⟩
          rw [HR.out]
          have hb2 : Below w.heap.size w w1 := (((Below.refl _ _).alloc (Nat.le_refl _) _).alloc (by simp) _).trans (hb1.mono (by simp; omega))
          have HB := Lib.hid hb2
          clear hb1 hb2 HR
          cases hrr : rightB (kd, nm, vl) <;> first | rw [errN_true] | rw [errN_false]
          · have HRR := Lib.hid hrr
            clear hrr
            go_wp2_with fail
            go_ret
            exact ⟨by rw [HRR.out]; rfl, HB.out⟩
          · have HRR := Lib.hid hrr
            clear hrr
            go_wp2_with fail
            go_ret
            exact ⟨by rw [HRR.out]; rfl, HB.out⟩
      · rw [ne_list hem, Bool.false_or] at hr
        have hem2 : vl.toList.isEmpty = false := by rw [toList_data]; exact ne_list hem
        by_cases k3 : kd = 3
        · subst k3
          rw [decide_eq_false (by decide), Bool.false_and, Bool.and_false] at hr
          rw [hr]
          clear hr hlo hhi
          go_enter Try.func37, Try.ntmps37
          go_wp2_with fail
          go_ret
          exact ⟨rfl, (Below.refl _ _).alloc (Nat.le_refl _) _⟩
        · have e3 : (kd == 3) = false := by simpa using k3
          rw [decide_eq_true (show kd < 3 by omega), Bool.true_and] at hr
          have hc := checkB_one nm vl
          rw [← hr] at hc
          have HR := Lib.hid hc
          clear hr hc hlo hhi k3
          go_enter Try.func37, Try.ntmps37
          go_wp2_with fail
          refine (check_any _ 1 1 [(nm, vl)] _ (Comes.block (heap_at _ _ (by simp)) rfl (fun _ => rfl) rfl (Nat.le_refl _) (by decide) (fun x hx => by
            obtain rfl := List.mem_singleton.1 hx
            exact ⟨hnm, hvl⟩))).mono ?_
          rintro e w1 ⟨rfl, hb1⟩
          rw [HR.out]
          have hb2 : Below w.heap.size w w1 := (((Below.refl _ _).alloc (Nat.le_refl _) _).alloc (by simp) _).trans (hb1.mono (by simp; omega))
          have HB := Lib.hid hb2
          clear hb1 hb2 HR
          cases hrr : rightB (kd, nm, vl) <;> first | rw [errN_true] | rw [errN_false]
          · have HRR := Lib.hid hrr
            clear hrr
            go_wp2_with fail
            go_ret
            exact ⟨by rw [HRR.out]; rfl, HB.out⟩
          · have HRR := Lib.hid hrr
            clear hrr
            go_wp2_with fail
            go_ret
            exact ⟨by rw [HRR.out]; rfl, HB.out⟩
theorem check_filter {α : Type} (p : α → Bool) (l : List α) : decide ((l.filter p).length < l.length) = !l.all p := by
  have h := filter_all p l
  have hle := List.length_filter_le p l
  rw [← h, Bool.eq_iff_iff]
  simp only [decide_eq_true_eq, Bool.not_eq_true', decide_eq_false_iff_not]
  omega
theorem mcheck_any (A : Option Addr) (n c : Nat) (ms : List Mat) (w : World) (hms : Comes w 3 encM okM A n c ms) :
    Calls Try.prog 18 #[.slice A n c] w fun e w' => e = .returned (.int .i64 (errN (checkMB ms) 1)) ∧ Below w.heap.size w w' := by
  have HM := Lib.hid hms
  have hcap := hms.cap
  have hle := hms.le
  have hln := hms.len
  unfold maxLen at hcap
  by_cases h8 : 8 < n
  · have hno : checkMB ms = false := by unfold checkMB; rw [decide_eq_false (by omega)]; simp
    rw [hno]
    clear hms hno hln
    go_enter Try.func18, Try.ntmps18
    go_wp2_with fail
    go_ret
    exact ⟨rfl, Below.refl _ _⟩
  · have hyes : checkMB ms = ms.all rightB := by unfold checkMB; rw [decide_eq_true (by omega)]; simp
    rw [hyes]
    clear hms hyes hln
    go_enter Try.func18, Try.ntmps18
    go_wp2_with fail
    refine (pickM_any 37 #[] rightB (enters_of Try.func37 (by kernel_rfl) rfl) A n c ms _ HM.out (by omega) (fun x hx W hW => right_any x (HM.out.ok x hx) W)).mono ?_
    rintro e w2 ⟨v, rfl, hown, hb2⟩
    obtain ⟨A2, c2, rfl, -, -⟩ := Comes.of_own (okA := fun _ => True) hown (fun _ => rfl) (by decide) (fun _ _ => trivial)
    have hall := check_filter rightB ms
    rw [HM.out.len] at hall
    generalize (ms.filter rightB).length = q at *
    have HB2 := Lib.hid hb2
    cases hA : ms.all rightB
    · rw [hA] at hall
      have hq : q < n := of_decide_eq_true hall
      have hqd : decide (q < n) = true := hall
      have HA := Lib.hid hA
      clear hown hb2 hall hA
      go_wp2_with fail
      go_ret
      exact ⟨by rw [HA.out]; rfl, HB2.out⟩
    · rw [hA] at hall
      have hq : ¬ q < n := of_decide_eq_false hall
      have hqd : decide (q < n) = false := hall
      have HA := Lib.hid hA
      clear hown hb2 hall hA
      go_wp2_with fail
      go_ret
      exact ⟨by rw [HA.out]; rfl, HB2.out⟩
end Go.Proofs.Ytdacefmcnjoboaa.LabW
