/-
  THE DOCUMENT's EXAMPLE OF THE CHECK (alluviumlaw01.works): it holds.
-/
import Derived.Test.YtmjablbbgnbmgaaCrcRef2
namespace Go.Proofs.Ytmjablbbgnbmgaa.CrcW
open Go.RowKit CrcM
theorem small_len (l : Array UInt8) (h : l.size ≤ 100000) : (⟨l⟩ : ByteArray).size ≤ maxLen := by
  have : (⟨l⟩ : ByteArray).size = l.size := rfl
  unfold maxLen; omega
theorem small_size (s : ByteArray) (h : s.size ≤ 100000) : s.size ≤ maxLen := by unfold maxLen; omega
theorem bytes_ext {a b : ByteArray} (h : a.data.toList = b.data.toList) : a = b := by
  cases a; cases b; simp at h; rw [h]
theorem data_app (a b : ByteArray) : (a ++ b).data.toList = a.data.toList ++ b.data.toList := by simp [ByteArray.data_append]
theorem size_list (s : ByteArray) : s.data.toList.length = s.size := by simp
/-- What ends with its own check is right, and what stood ahead stands ahead. -/
theorem right_own (s t : ByteArray) (h : t.data.toList = ctail s.data.toList) : 4 ≤ (s ++ t).size ∧ Right (s ++ t).data.toList ∧ ahead (s ++ t) = s := by
  have hl : (s ++ t).size = s.size + 4 := by
    rw [← size_list, data_app, List.length_append, h, ctail_length, size_list]
  have hs : (s ++ t).data.toList.take ((s ++ t).size - 4) = s.data.toList := by
    rw [data_app, hl, show s.size + 4 - 4 = s.data.toList.length by rw [size_list]; omega, List.take_left]
  refine ⟨by omega, ?_, bytes_ext ?_⟩
  · unfold Right
    rw [size_list, hs, data_app, hl, show s.size + 4 - 4 = s.data.toList.length by rw [size_list]; omega, List.drop_left, h]
  · rw [ahead_list, hs]
theorem ex1 : (((cof [49, 50, 51, 52, 53, 54, 55, 56, 57]).toNat : Int) == 3808858755) = true := by decide +kernel
theorem ex2 : con (cof [49, 50, 51, 52]) [53, 54, 55, 56, 57] = cof [49, 50, 51, 52, 53, 54, 55, 56, 57] := by decide +kernel
theorem ex3 : cof [] = 0#32 := by decide +kernel
set_option maxHeartbeats 1000000 in
theorem works_any (w : World) :
    Calls Try.prog 9 #[] w fun e w' => e = .returned (.bool true) ∧ Below w.heap.size w w' := by
  go_enter Try.func9, Try.ntmps9
  go_wp2_with fail
  refine (of_any _ _ (small_len _ (by decide))).mono ?_
  rintro e w1 ⟨rfl, hb1⟩
  have F1 := ex1
  have E2 := Lib.hid ex2
  generalize cof [49, 50, 51, 52, 53, 54, 55, 56, 57] = c9 at *
  have E1 := Lib.hid F1
  clear F1
  go_wp2_with fail
  refine (tail_any _ _ (small_len _ (by decide))).mono ?_
  rintro e w2 ⟨rfl, hb2⟩
  go_wp2_with fail
  obtain ⟨r1, r2, r3⟩ := right_own ⟨#[97, 98]⟩ ⟨(ctail [97, 98]).toArray⟩ (by simp)
  refine (good_yes _ _ (small_size _ (by simp [ByteArray.size, ctail_length])) r1 r2).mono ?_
  rw [r3]
  clear r1 r2 r3
  rintro e w3 ⟨rfl, hb3⟩
  go_wp2_with fail
  refine (good_short _ _ (by decide)).mono ?_
  rintro e w4 ⟨rfl, rfl⟩
  have F1 := E1.out
  clear E1
  go_wp2_with fail
  refine (of_any _ _ (small_len _ (by decide))).mono ?_
  rintro e w5 ⟨rfl, hb5⟩
  go_wp2_with fail
  refine (on_any _ _ _ (small_len _ (by decide))).mono ?_
  rintro e w6 ⟨rfl, hb6⟩
  rw [E2.out]
  go_wp2_with fail
  refine (tail_any _ _ (small_len _ (by decide))).mono ?_
  rintro e w7 ⟨rfl, hb7⟩
  have F2 : (((ctail [120]).length : Int) == 4) = true := by rw [ctail_length]; rfl
  go_wp2_with fail
  refine (of_any _ _ (small_len _ (by decide))).mono ?_
  rintro e w8 ⟨rfl, hb8⟩
  rw [show (#[] : Array UInt8).toList = [] from rfl, ex3]
  go_wp2_with fail
  go_ret
  exact ⟨rfl, later (later (later (later (later (later (later hb1 hb2) hb3) hb5) hb6) hb7) hb8) (Below.refl _ _)⟩
end Go.Proofs.Ytmjablbbgnbmgaa.CrcW
