/-
  THE STATEMENTS CrcParts, CrcEnd (alluviumlaw01): their walks.
-/
import Derived.Test.YtmjablbbgnbmgaaCrcLawA
namespace Go.Proofs.Ytmjablbbgnbmgaa.CrcW
open Go.RowKit CrcM
theorem app_size (a b : ByteArray) : (a ++ b).size = a.size + b.size := by simp
set_option maxHeartbeats 1000000 in
theorem crcParts_in (a b : ByteArray) (c : BitVec 32) (w : World) (ha : a.size ≤ 600) (hb : b.size ≤ 600) :
    Calls Try.prog 4 #[.string a, .string b, vu32 c] w fun e w' => e = .returned (.bool true) ∧ Below w.heap.size w w' := by
  have ha' : ¬ (600 : Int) < (a.size : Int) := by omega
  have hb' : ¬ (600 : Int) < (b.size : Int) := by omega
  have ma : a.size ≤ maxLen := by unfold maxLen; omega
  have mb : b.size ≤ maxLen := by unfold maxLen; omega
  have mab : (a ++ b).size ≤ maxLen := by rw [app_size]; unfold maxLen; omega
  have E1 := Lib.hid (show con (cof a.data.toList) b.data.toList = cof (a ++ b).data.toList by rw [data_app]; exact (on_append _ _ _).symm)
  have E2 := Lib.hid (show con (con c a.data.toList) b.data.toList = con c (a ++ b).data.toList by rw [data_app]; exact (on_append _ _ _).symm)
  go_enter Try.func4, Try.ntmps4
  go_wp2_with fail
  refine (works_any _).mono ?_
  rintro e w1 ⟨rfl, hb1⟩
  go_wp2_with fail
  refine (of_any _ _ mab).mono ?_
  rintro e w2 ⟨rfl, hb2⟩
  generalize cof (a ++ b).data.toList = x1 at *
  go_wp2_with fail
  refine (of_any _ _ ma).mono ?_
  rintro e w3 ⟨rfl, hb3⟩
  go_wp2_with fail
  refine (on_any _ _ _ mb).mono ?_
  rintro e w4 ⟨rfl, hb4⟩
  rw [E1.out]
  clear E1
  go_wp2_with fail
  refine (on_any _ _ _ mab).mono ?_
  rintro e w5 ⟨rfl, hb5⟩
  generalize con c (a ++ b).data.toList = x2 at *
  go_wp2_with fail
  refine (on_any _ _ _ ma).mono ?_
  rintro e w6 ⟨rfl, hb6⟩
  go_wp2_with fail
  refine (on_any _ _ _ mb).mono ?_
  rintro e w7 ⟨rfl, hb7⟩
  rw [E2.out]
  clear E2
  go_wp2_with fail
  refine (on_any _ _ _ (small_len _ (by decide))).mono ?_
  rintro e w8 ⟨rfl, hb8⟩
  rw [show (#[] : Array UInt8).toList = [] from rfl, on_nil]
  go_wp2_with fail
  go_ret
  exact ⟨rfl, later (later (later (later (later (later (later hb1 hb2) hb3) hb4) hb5) hb6) hb7) hb8⟩
set_option maxHeartbeats 1000000 in
theorem crcParts_out (a b : ByteArray) (c : BitVec 32) (w : World) (h : 600 < a.size ∨ 600 < b.size) :
    Calls Try.prog 4 #[.string a, .string b, vu32 c] w fun e w' => e = .returned (.bool true) ∧ Below w.heap.size w w' := by
  by_cases ha : 600 < a.size
  · have ha' : (600 : Int) < (a.size : Int) := by omega
    go_enter Try.func4, Try.ntmps4
    go_wp2_with fail
    refine (works_any _).mono ?_
    rintro e w1 ⟨rfl, hb1⟩
    go_wp2_with fail
    go_ret
    exact ⟨rfl, hb1⟩
  · have ha' : ¬ (600 : Int) < (a.size : Int) := by omega
    have hb' : (600 : Int) < (b.size : Int) := by omega
    go_enter Try.func4, Try.ntmps4
    go_wp2_with fail
    refine (works_any _).mono ?_
    rintro e w1 ⟨rfl, hb1⟩
    go_wp2_with fail
    go_ret
    exact ⟨rfl, hb1⟩
theorem crcParts_walk (a b : ByteArray) (c : Int) (_ : a.size ≤ maxLen) (_ : b.size ≤ maxLen) (hc : (Lit.int .u32 c).wf = true) (w : World) :
    Calls Try.prog 4 #[.string a, .string b, .int .u32 c] w fun e w' => e = .returned (.bool true) ∧ Below w.heap.size w w' := by
  obtain ⟨x, rfl⟩ := u32_of hc
  by_cases h : 600 < a.size ∨ 600 < b.size
  · exact crcParts_out a b x w h
  · exact crcParts_in a b x w (by omega) (by omega)
set_option maxHeartbeats 1000000 in
theorem crcEnd_in (a b : ByteArray) (w : World) (ha : a.size ≤ 600) (hb : b.size ≤ 600) :
    Calls Try.prog 7 #[.string a, .string b] w fun e w' => e = .returned (.bool true) ∧ Below w.heap.size w w' := by
  have ha' : ¬ (600 : Int) < (a.size : Int) := by omega
  have hb' : ¬ (600 : Int) < (b.size : Int) := by omega
  have ma : a.size ≤ maxLen := by unfold maxLen; omega
  have mb : b.size ≤ maxLen := by unfold maxLen; omega
  obtain ⟨ta, hta⟩ : ∃ t : ByteArray, t = ⟨(ctail a.data.toList).toArray⟩ := ⟨_, rfl⟩
  obtain ⟨tb, htb⟩ : ∃ t : ByteArray, t = ⟨(ctail b.data.toList).toArray⟩ := ⟨_, rfl⟩
  have sa : ta.size = 4 := by rw [hta]; simp [ByteArray.size, ctail_length]
  have sb : tb.size = 4 := by rw [htb]; simp [ByteArray.size, ctail_length]
  have mab : (a ++ ta).size ≤ maxLen := by rw [app_size]; unfold maxLen; omega
  have mbb : (b ++ tb).size ≤ maxLen := by rw [app_size]; unfold maxLen; omega
  have E1 := Lib.hid (show cof (a ++ ta).data.toList = ~~~ (tsteps 32 (BitVec.allOnes 32)) by rw [data_app, hta]; exact of_tail _)
  have E2 := Lib.hid (show cof (b ++ tb).data.toList = ~~~ (tsteps 32 (BitVec.allOnes 32)) by rw [data_app, htb]; exact of_tail _)
  generalize ~~~ (tsteps 32 (BitVec.allOnes 32)) = r at *
  have Hta := Lib.hid hta
  have Htb := Lib.hid htb
  have sa2 : ta.size ≤ 4 := by omega
  have sb2 : tb.size ≤ 4 := by omega
  clear hta htb sa sb
  go_enter Try.func7, Try.ntmps7
  go_wp2_with fail
  refine (works_any _).mono ?_
  rintro e w1 ⟨rfl, hb1⟩
  go_wp2_with fail
  refine (tail_any _ _ ma).mono ?_
  rintro e w2 ⟨rfl, hb2⟩
  rw [← Hta.out]
  go_wp2_with fail
  refine (of_any _ _ mab).mono ?_
  rintro e w3 ⟨rfl, hb3⟩
  rw [E1.out]
  clear E1
  go_wp2_with fail
  refine (tail_any _ _ mb).mono ?_
  rintro e w4 ⟨rfl, hb4⟩
  rw [← Htb.out]
  go_wp2_with fail
  refine (of_any _ _ mbb).mono ?_
  rintro e w5 ⟨rfl, hb5⟩
  rw [E2.out]
  clear E2
  go_wp2_with fail
  go_ret
  exact ⟨rfl, later (later (later (later hb1 hb2) hb3) hb4) hb5⟩
set_option maxHeartbeats 1000000 in
theorem crcEnd_out (a b : ByteArray) (w : World) (h : 600 < a.size ∨ 600 < b.size) :
    Calls Try.prog 7 #[.string a, .string b] w fun e w' => e = .returned (.bool true) ∧ Below w.heap.size w w' := by
  by_cases ha : 600 < a.size
  · have ha' : (600 : Int) < (a.size : Int) := by omega
    go_enter Try.func7, Try.ntmps7
    go_wp2_with fail
    refine (works_any _).mono ?_
    rintro e w1 ⟨rfl, hb1⟩
    go_wp2_with fail
    go_ret
    exact ⟨rfl, hb1⟩
  · have ha' : ¬ (600 : Int) < (a.size : Int) := by omega
    have hb' : (600 : Int) < (b.size : Int) := by omega
    go_enter Try.func7, Try.ntmps7
    go_wp2_with fail
    refine (works_any _).mono ?_
    rintro e w1 ⟨rfl, hb1⟩
    go_wp2_with fail
    go_ret
    exact ⟨rfl, hb1⟩
theorem crcEnd_walk (a b : ByteArray) (_ : a.size ≤ maxLen) (_ : b.size ≤ maxLen) (w : World) :
    Calls Try.prog 7 #[.string a, .string b] w fun e w' => e = .returned (.bool true) ∧ Below w.heap.size w w' := by
  by_cases h : 600 < a.size ∨ 600 < b.size
  · exact crcEnd_out a b w h
  · exact crcEnd_in a b w (by omega) (by omega)
end Go.Proofs.Ytmjablbbgnbmgaa.CrcW
