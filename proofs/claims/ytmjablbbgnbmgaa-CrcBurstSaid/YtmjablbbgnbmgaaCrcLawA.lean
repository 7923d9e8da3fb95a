/-
  THE STATEMENT CrcOf (alluviumlaw01): its walk.
-/
import Derived.Test.YtmjablbbgnbmgaaCrcWorks
import Derived.OpenShut
namespace Go.Proofs.Ytmjablbbgnbmgaa.CrcW
open Go.RowKit CrcM
theorem lt_gt {s : ByteArray} (h : s.size ≤ 600) : decide ((600 : Int) < (s.size : Int)) = false := by simp; omega
theorem u32_of {c : Int} (h : (Lit.int .u32 c).wf = true) : ∃ x : BitVec 32, c = (x.toNat : Int) := by
  have := bounds_u32 h
  exact ⟨BitVec.ofNat 32 c.toNat, by simp; omega⟩
set_option maxHeartbeats 1000000 in
theorem crcOf_long (b : ByteArray) (c : Int) (w : World) (h : 600 < b.size) :
    Calls Try.prog 3 #[.string b, .int .u32 c] w fun e w' => e = .returned (.bool true) ∧ Below w.heap.size w w' := by
  have h' : (600 : Int) < (b.size : Int) := by omega
  go_enter Try.func3, Try.ntmps3
  go_wp2_with fail
  refine (works_any _).mono ?_
  rintro e w1 ⟨rfl, hb1⟩
  go_wp2_with fail
  go_ret
  exact ⟨rfl, hb1⟩
theorem good_short' (s : ByteArray) (w : World) (hs : s.size < 4) :
    Calls Try.prog 10 #[.string s] w fun e w' => e = .returned (.tuple #[.string ⟨#[]⟩, .bool false]) ∧ Below w.heap.size w w' :=
  (good_short s w hs).mono fun _ _ ⟨h, k⟩ => ⟨h, k ▸ Below.refl _ _⟩
theorem rgood_short' (s : ByteArray) (w : World) (hs : s.size < 4) :
    Calls Try.prog 11 #[.string s] w fun e w' => e = .returned (.tuple #[.string ⟨#[]⟩, .bool false]) ∧ Below w.heap.size w w' :=
  (rgood_short s w hs).mono fun _ _ ⟨h, k⟩ => ⟨h, k ▸ Below.refl _ _⟩
set_option maxHeartbeats 1000000 in
theorem crcOf_short (b : ByteArray) (c : BitVec 32) (w : World) (hm : b.size ≤ maxLen) (h6 : b.size ≤ 600) (h : b.size < 4) :
    Calls Try.prog 3 #[.string b, vu32 c] w fun e w' => e = .returned (.bool true) ∧ Below w.heap.size w w' := by
  have h' : ¬ (600 : Int) < (b.size : Int) := by omega
  go_enter Try.func3, Try.ntmps3
  go_wp2_with (first
    | (go_at_call 9; refine (works_any _).mono ?_; rintro e w1 ⟨rfl, hb1⟩)
    | (go_at_call 10; refine (good_short' _ _ h).mono ?_; rintro e w2 ⟨rfl, hb2⟩)
    | (go_at_call 11; refine (rgood_short' _ _ h).mono ?_; rintro e w3 ⟨rfl, hb3⟩)
    | (go_at_call 12; refine (of_any _ _ hm).mono ?_; rintro e w4 ⟨rfl, hb4⟩)
    | (go_at_call 13; refine (rof_any _ _ hm).mono ?_; rintro e w5 ⟨rfl, rfl⟩)
    | (go_at_call 14; refine (on_any _ _ _ hm).mono ?_; rintro e w6 ⟨rfl, hb6⟩)
    | (go_at_call 15; refine (ron_any _ _ _ hm).mono ?_; rintro e w7 ⟨rfl, rfl⟩)
    | (go_at_call 16; refine (tail_any _ _ hm).mono ?_; rintro e w8 ⟨rfl, hb8⟩)
    | (go_at_call 17; refine (rtail_any _ _ hm).mono ?_; rintro e w9 ⟨rfl, hb9⟩))
  go_ret
  exact ⟨rfl, later (later (later (later (later (later hb1 hb2) hb3) hb4) hb6) hb8) hb9⟩
set_option maxHeartbeats 1000000 in
theorem crcOf_yes (b : ByteArray) (c : BitVec 32) (w : World) (hm : b.size ≤ maxLen) (h6 : b.size ≤ 600) (h : 4 ≤ b.size) (hr : Right b.data.toList) :
    Calls Try.prog 3 #[.string b, vu32 c] w fun e w' => e = .returned (.bool true) ∧ Below w.heap.size w w' := by
  have h' : ¬ (600 : Int) < (b.size : Int) := by omega
  go_enter Try.func3, Try.ntmps3
  go_wp2_with (first
    | (go_at_call 9; refine (works_any _).mono ?_; rintro e w1 ⟨rfl, hb1⟩)
    | (go_at_call 10; refine (good_yes _ _ hm h hr).mono ?_; rintro e w2 ⟨rfl, hb2⟩)
    | (go_at_call 11; refine (rgood_yes _ _ hm h hr).mono ?_; rintro e w3 ⟨rfl, hb3⟩)
    | (go_at_call 12; refine (of_any _ _ hm).mono ?_; rintro e w4 ⟨rfl, hb4⟩)
    | (go_at_call 13; refine (rof_any _ _ hm).mono ?_; rintro e w5 ⟨rfl, rfl⟩)
    | (go_at_call 14; refine (on_any _ _ _ hm).mono ?_; rintro e w6 ⟨rfl, hb6⟩)
    | (go_at_call 15; refine (ron_any _ _ _ hm).mono ?_; rintro e w7 ⟨rfl, rfl⟩)
    | (go_at_call 16; refine (tail_any _ _ hm).mono ?_; rintro e w8 ⟨rfl, hb8⟩)
    | (go_at_call 17; refine (rtail_any _ _ hm).mono ?_; rintro e w9 ⟨rfl, hb9⟩))
  go_ret
  exact ⟨rfl, later (later (later (later (later (later hb1 hb2) hb3) hb4) hb6) hb8) hb9⟩
set_option maxHeartbeats 1000000 in
theorem crcOf_no (b : ByteArray) (c : BitVec 32) (w : World) (hm : b.size ≤ maxLen) (h6 : b.size ≤ 600) (h : 4 ≤ b.size) (hr : ¬ Right b.data.toList) :
    Calls Try.prog 3 #[.string b, vu32 c] w fun e w' => e = .returned (.bool true) ∧ Below w.heap.size w w' := by
  have h' : ¬ (600 : Int) < (b.size : Int) := by omega
  go_enter Try.func3, Try.ntmps3
  go_wp2_with (first
    | (go_at_call 9; refine (works_any _).mono ?_; rintro e w1 ⟨rfl, hb1⟩)
    | (go_at_call 10; refine (good_no _ _ hm h hr).mono ?_; rintro e w2 ⟨rfl, hb2⟩)
    | (go_at_call 11; refine (rgood_no _ _ hm h hr).mono ?_; rintro e w3 ⟨rfl, hb3⟩)
    | (go_at_call 12; refine (of_any _ _ hm).mono ?_; rintro e w4 ⟨rfl, hb4⟩)
    | (go_at_call 13; refine (rof_any _ _ hm).mono ?_; rintro e w5 ⟨rfl, rfl⟩)
    | (go_at_call 14; refine (on_any _ _ _ hm).mono ?_; rintro e w6 ⟨rfl, hb6⟩)
    | (go_at_call 15; refine (ron_any _ _ _ hm).mono ?_; rintro e w7 ⟨rfl, rfl⟩)
    | (go_at_call 16; refine (tail_any _ _ hm).mono ?_; rintro e w8 ⟨rfl, hb8⟩)
    | (go_at_call 17; refine (rtail_any _ _ hm).mono ?_; rintro e w9 ⟨rfl, hb9⟩))
  go_ret
  exact ⟨rfl, later (later (later (later (later (later hb1 hb2) hb3) hb4) hb6) hb8) hb9⟩

theorem crcOf_walk (b : ByteArray) (c : Int) (hm : b.size ≤ maxLen) (hc : (Lit.int .u32 c).wf = true) (w : World) :
    Calls Try.prog 3 #[.string b, .int .u32 c] w fun e w' => e = .returned (.bool true) ∧ Below w.heap.size w w' := by
  obtain ⟨x, rfl⟩ := u32_of hc
  by_cases h6 : 600 < b.size
  · exact crcOf_long b _ w h6
  · by_cases h4 : b.size < 4
    · exact crcOf_short b x w hm (by omega) h4
    · by_cases hr : Right b.data.toList
      · exact crcOf_yes b x w hm (by omega) (by omega) hr
      · exact crcOf_no b x w hm (by omega) (by omega) hr
end Go.Proofs.Ytmjablbbgnbmgaa.CrcW
