/-
  alluviumref07.Right, AllRight, All: THE WALKS.
-/
import Derived.Test.YtdacefmcnjoboaaLabRef
namespace Go.Proofs.Ytdacefmcnjoboaa.LabW
open Go.RowKit Go.Shelf LabM
set_option maxHeartbeats 2000000 in
theorem rright_any (m : Mat) (hm : okM m) (w : World) :
    Calls Try.prog 29 #[.agg #[.int .i64 m.1, .string m.2.1, .string m.2.2]] w fun e w' => e = .returned (.bool (rightB m)) ∧ Below w.heap.size w w' := by
  obtain ⟨kd, nm, vl⟩ := m
  obtain ⟨k0, k1, hnm, hvl⟩ := hm
  simp only [] at k0 k1 hnm hvl ⊢
  have HN := Lib.hid (fun (W : World) => rname_any nm W hnm)
  have HV := Lib.hid (fun (W : World) => rvalue_any vl W hvl)
  by_cases hlo : kd < 0
  · have hr : rightB (kd, nm, vl) = false := by unfold rightB; rw [decide_eq_false (by omega)]; simp
    rw [hr]
    clear hr
    go_enter Try.func29, Try.ntmps29
    go_wp2_with fail
    go_ret
    exact ⟨rfl, (Below.refl _ _).alloc (Nat.le_refl _) _⟩
  · have hge : 0 ≤ kd := by omega
    by_cases hhi : 3 < kd
    · have hr : rightB (kd, nm, vl) = false := by unfold rightB; rw [decide_eq_false (p := kd ≤ 3) (by omega)]; simp
      rw [hr]
      clear hr hlo
      go_enter Try.func29, Try.ntmps29
      go_wp2_with fail
      go_ret
      exact ⟨rfl, (Below.refl _ _).alloc (Nat.le_refl _) _⟩
    · have hle : kd ≤ 3 := by omega
      have hr : rightB (kd, nm, vl) = (nameB nm.data.toList && (vl.data.toList.isEmpty || decide (kd < 3) && valueB vl.data.toList)) := by
        unfold rightB; rw [decide_eq_true hge, decide_eq_true hle]; simp
      have hb0 : Below w.heap.size w (w.alloc (.cells #[.int .i64 kd, .string nm, .string vl] 32)) := (Below.refl _ _).alloc (Nat.le_refl _) _
      have HB := Lib.hid hb0
      clear hb0
      cases hN : nameB nm.data.toList
      · rw [hN, Bool.false_and] at hr
        rw [hr]
        have HNN := Lib.hid hN
        clear hr hN hlo hhi
        go_enter Try.func29, Try.ntmps29
        go_wp2_with fail
        refine (HN.out _).mono ?_
        rintro e w' ⟨rfl, rfl⟩
        rw [HNN.out]
        go_wp2_with fail
        go_ret
        exact ⟨rfl, HB.out⟩
      · rw [hN, Bool.true_and] at hr
        have HNN := Lib.hid hN
        clear hN hlo hhi
        by_cases hem : vl.toList = []
        · rw [em_list hem, Bool.true_or] at hr
          rw [hr]
          clear hr
          go_enter Try.func29, Try.ntmps29
          go_wp2_with fail
          refine (HN.out _).mono ?_
          rintro e w' ⟨rfl, rfl⟩
          rw [HNN.out]
          go_wp2_with fail
          go_ret
          exact ⟨rfl, HB.out⟩
        · rw [ne_list hem, Bool.false_or] at hr
          have hem2 : vl.toList.isEmpty = false := by rw [toList_data]; exact ne_list hem
          by_cases k3 : kd < 3
          · rw [decide_eq_true k3, Bool.true_and] at hr
            have HR := Lib.hid hr
            clear hr
            go_enter Try.func29, Try.ntmps29
            go_wp2_with fail
            refine (HN.out _).mono ?_
            rintro e w' ⟨rfl, rfl⟩
            rw [HNN.out]
            go_wp2_with fail
            refine (HV.out _).mono ?_
            rintro e w' ⟨rfl, rfl⟩
            obtain ⟨V, hV⟩ : ∃ V, valueB vl.data.toList = V := ⟨_, rfl⟩
            rw [hV]
            rw [hV] at HR
            clear hV
            go_wp2_with fail
            go_ret
            exact ⟨by rw [HR.out]; rfl, HB.out⟩
          · rw [decide_eq_false k3, Bool.false_and] at hr
            rw [hr]
            clear hr
            go_enter Try.func29, Try.ntmps29
            go_wp2_with fail
            refine (HN.out _).mono ?_
            rintro e w' ⟨rfl, rfl⟩
            rw [HNN.out]
            go_wp2_with fail
            go_ret
            exact ⟨rfl, HB.out⟩
set_option maxHeartbeats 2000000 in
theorem rallright_any (A : Option Addr) (n c : Nat) (ms : List Mat) (w : World) (hms : Comes w 3 encM okM A n c ms) :
    Calls Try.prog 12 #[.slice A n c] w fun e w' => e = .returned (.bool (checkMB ms)) ∧ Below w.heap.size w w' := by
  have HL := Lib.hid hms
  have hcap : c ≤ 9223372036854775807 := hms.cap
  have hle := hms.le
  clear hms
  go_enter Try.func12, Try.ntmps12
  go_wp2_with fail
  go_loopw [3] (fun v3 wr => ∃ k : Nat, k ≤ n ∧ v3 = .int .i64 k ∧ (ms.take k).all rightB = true ∧ Below w.heap.size w wr) (fun v3 _ => n - (intOf v3).toNat)
  case atStart => exact ⟨0, Nat.zero_le _, rfl, rfl, Below.refl _ _⟩
  case round =>
    obtain ⟨k, hk, rfl, hall, ho⟩ := hrel
    have hln := HL.out.len
    by_cases hlt : k < n
    · have hkl : k < ms.length := by omega
      obtain ⟨b, o, rfl, hcs⟩ := M_cells HL.out.lies hkl
      obtain ⟨hc0, hc1, hc2⟩ := hcs _ ho
      have hok := HL.out.ok _ (List.getElem_mem hkl)
      have hsn := take_snocL ms k hkl
      have hmem := List.getElem_mem hkl
      generalize ms[k] = x at *
      have hr := fun W => rright_any x hok W
      obtain ⟨x1, x2, x3⟩ := x
      simp only [] at hc0 hc1 hc2 hr
      have HO := Lib.hid ho
      have HR := Lib.hid hr
      have HS := Lib.hid (And.intro hsn (And.intro hall hmem))
      have i0 : (0 : Int) ≤ (k : Int) := by omega
      have i1 : (k : Int) < (n : Int) := by omega
      clear ho hln hcs hr hsn hall hok hmem
      go_wp2_with fail
      refine (HR.out _).mono ?_
      rintro e w1 ⟨rfl, hb1⟩
      have HB := Lib.hid (later HO.out hb1)
      clear hb1
      cases hx : rightB (x1, x2, x3)
      · have hno : checkMB ms = false := by unfold checkMB; rw [List.all_eq_false.2 ⟨_, HS.out.2.2, by rw [hx]; decide⟩]; rfl
        have HX := Lib.hid hno
        clear hx hno
        go_wp2_with fail
        go_ret
        exact ⟨by rw [HX.out]; rfl, HB.out⟩
      · have HX := Lib.hid hx
        clear hx
        go_wp2_with fail
        go_roundw
        case rel => exact ⟨k + 1, by omega, by go_num, by rw [HS.out.1, List.all_append, HS.out.2.1, Bool.true_and, List.all_cons, List.all_nil, Bool.and_true, HX.out], HB.out⟩
        case measure => simp [intOf]; omega
    · obtain rfl : k = n := by omega
      rw [List.take_of_length_le (by omega)] at hall
      have hv : checkMB ms = decide ((k : Int) ≤ 8) := by
        unfold checkMB; rw [hall, Bool.true_and, decide_eq_decide]; omega
      have HV := Lib.hid hv
      have HO := Lib.hid ho
      clear ho hall hv
      go_wp2_with fail
      go_ret
      exact ⟨by rw [HV.out]; rfl, HO.out⟩
set_option maxHeartbeats 2000000 in
theorem rall_any (A1 : Option Addr) (n1 c1 : Nat) (ms : List Mat) (A : Option Addr) (n c : Nat) (l : List Lab) (w : World) (hms : Comes w 3 encM okM A1 n1 c1 ms) (hl : Comes w 2 encL okL A n c l) (hn : n ≤ 1000000) :
    Calls Try.prog 15 #[.slice A1 n1 c1, .slice A n c] w fun e w' => e = .returned (.bool (allB ms l)) ∧ Below w.heap.size w w' := by
  have HL := Lib.hid hms
  have HLL := Lib.hid hl
  have hcap : c1 ≤ 9223372036854775807 := hms.cap
  have hle := hms.le
  clear hms hl
  go_enter Try.func15, Try.ntmps15
  go_wp2_with fail
  go_loopw [5] (fun v5 wr => ∃ k : Nat, k ≤ n1 ∧ v5 = .int .i64 k ∧ (ms.take k).all (fun m => fitsB m l) = true ∧ Below w.heap.size w wr) (fun v5 _ => n1 - (intOf v5).toNat)
  case atStart => exact ⟨0, Nat.zero_le _, rfl, rfl, Below.refl _ _⟩
  case round =>
    obtain ⟨k, hk, rfl, hall, ho⟩ := hrel
    have hln := HL.out.len
    by_cases hlt : k < n1
    · have hkl : k < ms.length := by omega
      obtain ⟨b, o, rfl, hcs⟩ := M_cells HL.out.lies hkl
      obtain ⟨hc0, hc1, hc2⟩ := hcs _ ho
      have hok := HL.out.ok _ (List.getElem_mem hkl)
      have hsn := take_snocL ms k hkl
      have hmem := List.getElem_mem hkl
      generalize ms[k] = x at *
      have hr := rfits_any x hok A n c l _ (HLL.out.later ho) hn
      obtain ⟨x1, x2, x3⟩ := x
      simp only [] at hc0 hc1 hc2 hr
      have HO := Lib.hid ho
      have HR := Lib.hid hr
      have HS := Lib.hid (And.intro hsn (And.intro hall hmem))
      have i0 : (0 : Int) ≤ (k : Int) := by omega
      have i1 : (k : Int) < (n1 : Int) := by omega
      clear ho hln hcs hr hsn hall hok hmem
      go_wp2_with fail
      refine HR.out.mono ?_
      rintro e w1 ⟨rfl, hb1⟩
      have HB := Lib.hid (later HO.out hb1)
      clear hb1
      cases hx : fitsB (x1, x2, x3) l
      · have hno : allB ms l = false := by unfold allB; rw [List.all_eq_false.2 ⟨_, HS.out.2.2, by rw [hx]; decide⟩]
        have HX := Lib.hid hno
        clear hx hno
        go_wp2_with fail
        go_ret
        exact ⟨by rw [HX.out]; rfl, HB.out⟩
      · have HX := Lib.hid hx
        clear hx
        go_wp2_with fail
        go_roundw
        case rel => exact ⟨k + 1, by omega, by go_num, by rw [HS.out.1, List.all_append, HS.out.2.1, Bool.true_and, List.all_cons, List.all_nil, Bool.and_true, HX.out], HB.out⟩
        case measure => simp [intOf]; omega
    · obtain rfl : k = n1 := by omega
      rw [List.take_of_length_le (by omega)] at hall
      have hv : allB ms l = true := hall
      have HV := Lib.hid hv
      have HO := Lib.hid ho
      clear ho hall hv
      go_wp2_with fail
      go_ret
      exact ⟨by rw [HV.out]; rfl, HO.out⟩
end Go.Proofs.Ytdacefmcnjoboaa.LabW
