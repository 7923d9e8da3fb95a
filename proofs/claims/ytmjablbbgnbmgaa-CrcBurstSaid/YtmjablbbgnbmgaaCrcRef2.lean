/-
  THE WALKS OF THE DOCUMENT's ANSWER FOR THE CHECK: Good.
-/
import Derived.Test.YtmjablbbgnbmgaaCrcRef
import Derived.Deep.RegionHeld3
namespace Go.Proofs.Ytmjablbbgnbmgaa.CrcW
open Go.RowKit CrcM
set_option maxHeartbeats 400000 in
theorem rgood_short (s : ByteArray) (w : World) (hs : s.size < 4) :
    Calls Try.prog 11 #[.string s] w fun e w' => e = .returned (.tuple #[.string ⟨#[]⟩, .bool false]) ∧ w = w' := by
  go_enter Try.func11, Try.ntmps11
  go_wp2
  go_ret2
  exact ⟨rfl, rfl⟩
set_option maxHeartbeats 400000 in
theorem rgood_yes (s : ByteArray) (w : World) (hs : s.size ≤ maxLen) (h4 : 4 ≤ s.size) (hr : Right s.data.toList) :
    Calls Try.prog 11 #[.string s] w fun e w' => e = .returned (.tuple #[.string (ahead s), .bool true]) ∧ Below w.heap.size w w' := by
  unfold maxLen at hs
  have h4' : ¬ (s.size : Int) - 4 < 0 := by omega
  have hsz : (s.extract 0 (s.size - 4)).size ≤ maxLen := by rw [← ahead, ahead_size]; unfold maxLen; omega
  have ht : ((s.extract (s.size - 4) s.size).toList == ctail (s.data.toList.take (s.size - 4))) = true := by
    rw [BEq.comm, right_test]; simpa using hr
  go_enter Try.func11, Try.ntmps11
  go_wp2_with fail
  have s1 := slice_from (P := Try.prog) Try.underlying9 s ((s.size : Int) - 4) (s.size - 4) (by omega) (by omega)
  have s2 := slice_to (P := Try.prog) Try.underlying9 s ((s.size : Int) - 4) (s.size - 4) (by omega) (by omega)
  go_region_held3 (fun _ => True) (trivial) ((go_at_call 17; refine (rtail_any _ _ hsz).mono ?_; rintro e w1 ⟨rfl, hb1⟩))
  go_wp2
  go_ret2
  exact ⟨rfl, below_draw hb1⟩
set_option maxHeartbeats 400000 in
theorem rgood_no (s : ByteArray) (w : World) (hs : s.size ≤ maxLen) (h4 : 4 ≤ s.size) (hr : ¬ Right s.data.toList) :
    Calls Try.prog 11 #[.string s] w fun e w' => e = .returned (.tuple #[.string ⟨#[]⟩, .bool false]) ∧ Below w.heap.size w w' := by
  unfold maxLen at hs
  have h4' : ¬ (s.size : Int) - 4 < 0 := by omega
  have hsz : (s.extract 0 (s.size - 4)).size ≤ maxLen := by rw [← ahead, ahead_size]; unfold maxLen; omega
  have ht : ((s.extract (s.size - 4) s.size).toList == ctail (s.data.toList.take (s.size - 4))) = false := by
    rw [BEq.comm, right_test]; simpa using hr
  go_enter Try.func11, Try.ntmps11
  go_wp2_with fail
  have s1 := slice_from (P := Try.prog) Try.underlying9 s ((s.size : Int) - 4) (s.size - 4) (by omega) (by omega)
  have s2 := slice_to (P := Try.prog) Try.underlying9 s ((s.size : Int) - 4) (s.size - 4) (by omega) (by omega)
  go_region_held3 (fun _ => True) (trivial) ((go_at_call 17; refine (rtail_any _ _ hsz).mono ?_; rintro e w1 ⟨rfl, hb1⟩))
  go_wp2
  go_ret2
  exact ⟨rfl, below_draw hb1⟩
end Go.Proofs.Ytmjablbbgnbmgaa.CrcW
