/-
  alluviumref06.Name, Value: THE WALKS.
-/
import Derived.Test.YtgnifdkoaajboaaLabChk
import Derived.Lib.Hide
namespace Go.Proofs.Ytgnifdkoaajboaa.LabW
open Go.RowKit Go.Shelf LabM
theorem ne_list {s : ByteArray} (h : ¬ s.toList = []) : s.data.toList.isEmpty = false := by
  rw [← toList_data]
  cases e : s.toList with
  | nil => exact absurd e h
  | cons => rfl
theorem em_list {s : ByteArray} (h : s.toList = []) : s.data.toList.isEmpty = true := by rw [← toList_data, h]; rfl
theorem mem_byte (s : ByteArray) (k : Nat) (h : k < s.size) : s[k] ∈ s.data.toList := by
  rw [ByteArray.getElem_eq_getElem_data]; simp
theorem len_bytes (s : ByteArray) : s.data.toList.length = s.size := by simp
def nmB (c : UInt8) : Bool := lowB c || digitB c
theorem byte_cases (c : UInt8) : ((c.toNat : Int) < 48 ∧ nmB c = false) ∨ ((48 ≤ (c.toNat : Int) ∧ (c.toNat : Int) ≤ 57) ∧ nmB c = true) ∨ ((58 ≤ (c.toNat : Int) ∧ (c.toNat : Int) ≤ 94) ∧ nmB c = false) ∨ ((c.toNat : Int) = 95 ∧ nmB c = true) ∨ ((c.toNat : Int) = 96 ∧ nmB c = false) ∨
    ((97 ≤ (c.toNat : Int) ∧ (c.toNat : Int) ≤ 122) ∧ nmB c = true) ∨ (123 ≤ (c.toNat : Int) ∧ nmB c = false) := by
  have h : nmB c = decide (((97 ≤ c.toNat ∧ c.toNat ≤ 122) ∨ c.toNat = 95) ∨ (48 ≤ c.toNat ∧ c.toNat ≤ 57)) := by
    unfold nmB lowB digitB
    simp only [Bool.decide_or, Bool.decide_and]
  rw [h]
  simp only [decide_eq_true_eq, decide_eq_false_iff_not]
  omega
theorem nameB_loop (s : ByteArray) (h0 : s.data.toList.isEmpty = false) (h48 : s.size ≤ 48) (hd : (s.data.toList.take 1).all digitB = false) : nameB s.data.toList = s.data.toList.all nmB := by
  unfold nameB
  rw [hd, h0, len_bytes, decide_eq_true h48]
  simp only [Bool.not_false, Bool.and_true]
  rfl
set_option maxHeartbeats 4000000 in
theorem rname_any (s : ByteArray) (w : World) (hs : s.size ≤ maxLen) :
    Calls Try.prog 33 #[.string s] w fun e w' => e = .returned (.bool (nameB s.data.toList)) ∧ w = w' := by
  have hs' : s.size ≤ 9223372036854775807 := hs
  clear hs
  by_cases he : s.toList = []
  · have hr : nameB s.data.toList = false := by unfold nameB; rw [em_list he]; simp
    rw [hr]
    clear hr
    go_enter Try.func33, Try.ntmps33
    go_wp2
    go_ret
    exact ⟨rfl, rfl⟩
  · have hne := ne_list he
    have he2 : s.toList.isEmpty = false := by rw [toList_data]; exact hne
    have hsz : 0 < s.size := by
      rw [← len_bytes]
      cases h : s.data.toList with
      | nil => rw [h] at hne; cases hne
      | cons => simp
    by_cases h48 : 48 < s.size
    · have hr : nameB s.data.toList = false := by unfold nameB; rw [len_bytes, decide_eq_false (p := s.size ≤ 48) (by omega)]; simp
      rw [hr]
      clear hr hne hsz
      go_enter Try.func33, Try.ntmps33
      go_wp2
      go_ret
      exact ⟨rfl, rfl⟩
    · have htk : (s.data.toList.take 1).all digitB = digitB s[0] := by
        have := take_snocU s 0 hsz
        rw [Nat.zero_add] at this
        rw [this]; simp
      have hdd : digitB s[0] = decide (48 ≤ s[0].toNat ∧ s[0].toNat ≤ 57) := by unfold digitB; rw [Bool.decide_and]
      by_cases hdig : 48 ≤ s[0].toNat ∧ s[0].toNat ≤ 57
      · have hr : nameB s.data.toList = false := by
          unfold nameB
          rw [htk, hdd, decide_eq_true hdig]; simp
        rw [hr]
        have j0 : 48 ≤ (s[0].toNat : Int) := by omega
        have j1 : (s[0].toNat : Int) ≤ 57 := by omega
        clear hr hne htk hdd hdig
        go_enter Try.func33, Try.ntmps33
        go_wp2
        go_ret
        exact ⟨rfl, rfl⟩
      · have hr := nameB_loop s hne (by omega) (by rw [htk, hdd, decide_eq_false hdig])
        have HR := Lib.hid hr
        have hgo : (s[0].toNat : Int) < 48 ∨ (48 ≤ (s[0].toNat : Int) ∧ 57 < (s[0].toNat : Int)) := by omega
        clear htk hr hne hdd hdig
        rcases hgo with hgo | ⟨hgo, hgo2⟩
        all_goals
          go_enter Try.func33, Try.ntmps33
          go_wp2
          go_loop [3] (fun v3 => ∃ k : Nat, k ≤ s.size ∧ v3 = .int .i64 k ∧ (s.data.toList.take k).all nmB = true) (fun v3 => s.size - (intOf v3).toNat)
          case atStart => exact ⟨0, Nat.zero_le _, rfl, rfl⟩
          case round =>
            obtain ⟨k, hk, rfl, hall⟩ := hrel
            by_cases hlt : k < s.size
            · have hsn := take_snocU s k hlt
              have hmem := mem_byte s k hlt
              have hcas := byte_cases s[k]
              have HS := Lib.hid (And.intro hsn (And.intro hall hmem))
              clear hsn hall hmem
              rcases hcas with ⟨c0, hb⟩ | ⟨⟨c0, c1⟩, hb⟩ | ⟨⟨c0, c1⟩, hb⟩ | ⟨c0, hb⟩ | ⟨c0, hb⟩ | ⟨⟨c0, c1⟩, hb⟩ | ⟨c0, hb⟩
              all_goals
                have HB := Lib.hid hb
                clear hb
                try have e95 : ((s[k].toNat : Int) == 95) = false := beq_eq_false_iff_ne.2 (by omega)
                try have d122 : decide ((s[k].toNat : Int) ≤ 122) = false := decide_eq_false (by omega)
                try have d57 : decide ((s[k].toNat : Int) ≤ 57) = false := decide_eq_false (by omega)
                go_wp2
                first
                  | (go_ret
                     refine ⟨?_, rfl⟩
                     rw [HR.out, List.all_eq_false.2 ⟨_, HS.out.2.2, by rw [HB.out]; decide⟩]; rfl)
                  | (go_round
                     case rel => exact ⟨k + 1, by omega, by go_num, by rw [HS.out.1, List.all_append, HS.out.2.1, Bool.true_and, List.all_cons, List.all_nil, Bool.and_true, HB.out]⟩
                     case measure => simp [intOf]; omega)
            · obtain rfl : k = s.size := by omega
              rw [List.take_of_length_le (by simp)] at hall
              have HA := Lib.hid hall
              clear hall
              go_wp2
              go_ret
              exact ⟨by rw [HR.out, HA.out]; rfl, rfl⟩
theorem shown_cases (c : UInt8) : ((c.toNat : Int) < 32 ∧ shownB c = false) ∨ ((32 ≤ (c.toNat : Int) ∧ (c.toNat : Int) ≤ 126) ∧ shownB c = true) ∨ ((32 ≤ (c.toNat : Int) ∧ 126 < (c.toNat : Int)) ∧ shownB c = false) := by
  have h : shownB c = decide (32 ≤ c.toNat ∧ c.toNat ≤ 126) := by unfold shownB; rw [Bool.decide_and]
  rw [h]
  simp only [decide_eq_true_eq, decide_eq_false_iff_not]
  omega
set_option maxHeartbeats 4000000 in
theorem rvalue_any (s : ByteArray) (w : World) (hs : s.size ≤ maxLen) :
    Calls Try.prog 34 #[.string s] w fun e w' => e = .returned (.bool (valueB s.data.toList)) ∧ w = w' := by
  have hs' : s.size ≤ 9223372036854775807 := hs
  clear hs
  go_enter Try.func34, Try.ntmps34
  go_wp2
  go_loop [3] (fun v3 => ∃ k : Nat, k ≤ s.size ∧ v3 = .int .i64 k ∧ (s.data.toList.take k).all shownB = true) (fun v3 => s.size - (intOf v3).toNat)
  case atStart => exact ⟨0, Nat.zero_le _, rfl, rfl⟩
  case round =>
    obtain ⟨k, hk, rfl, hall⟩ := hrel
    by_cases hlt : k < s.size
    · have hsn := take_snocU s k hlt
      have hmem := mem_byte s k hlt
      have hcas := shown_cases s[k]
      have HS := Lib.hid (And.intro hsn (And.intro hall hmem))
      clear hsn hall hmem
      rcases hcas with ⟨c0, hb⟩ | ⟨⟨c0, c1⟩, hb⟩ | ⟨⟨c0, c1⟩, hb⟩
      all_goals
        have HB := Lib.hid hb
        clear hb
        go_wp2
        first
          | (go_ret
             refine ⟨?_, rfl⟩
             unfold valueB
             rw [List.all_eq_false.2 ⟨_, HS.out.2.2, by rw [HB.out]; decide⟩]; rfl)
          | (go_round
             case rel => exact ⟨k + 1, by omega, by go_num, by rw [HS.out.1, List.all_append, HS.out.2.1, Bool.true_and, List.all_cons, List.all_nil, Bool.and_true, HB.out]⟩
             case measure => simp [intOf]; omega)
    · obtain rfl : k = s.size := by omega
      rw [List.take_of_length_le (by simp)] at hall
      have hv : valueB s.data.toList = (!s.toList.isEmpty && decide ((s.size : Int) ≤ 48)) := by
        unfold valueB
        rw [hall, Bool.true_and, toList_data, len_bytes]
        congr 1
        rw [decide_eq_decide]; omega
      have HA := Lib.hid hv
      clear hall hv
      by_cases he : s.toList = []
      · go_wp2
        go_ret
        refine ⟨?_, rfl⟩
        rw [HA.out, he]; rfl
      · have he2 : s.toList.isEmpty = false := by rw [toList_data]; exact ne_list he
        go_wp2
        go_ret
        refine ⟨?_, rfl⟩
        rw [HA.out, he2]; rfl
end Go.Proofs.Ytgnifdkoaajboaa.LabW
