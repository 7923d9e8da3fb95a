/-
  BitsCounts: THE WALK.
-/
import Derived.Test.YtcbdaemohfpebaaDoorBitsWorks
namespace Go.Proofs.YtcbdaemohfpebaaDoor.BitsW
open Go.RowKit Go.Shelf BitsM
set_option maxHeartbeats 1000000 in
theorem bitsCounts_walk (v : Nat) (w : World) (hv : v < 18446744073709551616) (hT : Tab w) :
    Calls Tryd.prog 5 #[.int .u64 v] w fun e w' => e = .returned (.bool true) ∧ Below w.heap.size w w' := by
  have HT := Lib.hid hT
  have HV := Lib.hid hv
  have hL : Lib.bitLen v ≤ 64 := Lib.bitLen_le v 64 (by omega) hv
  have hzero : v = 0 → Lib.bitLen v = 0 ∧ Lib.ctz 64 v = 64 := by rintro rfl; decide
  have hpos : v ≠ 0 → Lib.ctz 64 v < Lib.bitLen v := fun h => (between v hv h).1
  clear hT hv
  obtain ⟨L, hLe⟩ : ∃ L, Lib.bitLen v = L := ⟨_, rfl⟩
  obtain ⟨C, hCe⟩ : ∃ C, Lib.ctz 64 v = C := ⟨_, rfl⟩
  rw [hLe] at hL hzero hpos
  rw [hCe] at hzero hpos
  have HE := Lib.hid (And.intro hLe hCe)
  clear hLe hCe
  go_enter Tryd.func5, Tryd.ntmps5
  by_cases h0 : v = 0
  · obtain ⟨z1, z2⟩ := hzero h0
    clear hzero hpos
    subst h0 z1 z2
    go_wp2_with fail
    refine (works_any _ HT.out).mono ?_
    rintro e w1 ⟨rfl, hb1⟩
    have HT1 := Lib.hid (Tab.later HT.out hb1)
    have HB1 := Lib.hid hb1
    clear hb1 HT
    go_wp2_with (first
      | (go_at_call 33; refine (lead_any _ _ HV.out).mono ?_; rintro e w' ⟨rfl, rfl⟩; rw [HE.out.1])
      | (go_at_call 34; refine (trail_any _ _ HV.out HT1.out).mono ?_; rintro e w' ⟨rfl, rfl⟩; rw [HE.out.2])
      | (go_at_call 35; refine (rlead_any _ _ HV.out).mono ?_; rintro e w' ⟨rfl, rfl⟩; rw [HE.out.1])
      | (go_at_call 36; refine (rtrail_any _ _ HV.out).mono ?_; rintro e w' ⟨rfl, rfl⟩; rw [HE.out.2]))
    go_ret
    exact ⟨rfl, HB1.out⟩
  · have p1 := hpos h0
    clear hzero hpos
    have p2 : ((64 - L : Nat) : Int) = 64 - (L : Int) := by omega
    have hvb : ((v : Int) == 0) = false := by simp [h0]
    have hvp : (0 : Int) < (v : Int) := by omega
    have w1 : IntKind.i64.wrap (64 - (L : Int) + (C : Int)) = 64 - (L : Int) + (C : Int) := IntWalk.i64_in _ (by omega)
    have hle : 64 - (L : Int) + (C : Int) ≤ 63 := by omega
    have HP2 := Lib.hid p2
    clear p2
    go_wp2_with fail
    refine (works_any _ HT.out).mono ?_
    rintro e w1 ⟨rfl, hb1⟩
    have HT1 := Lib.hid (Tab.later HT.out hb1)
    have HB1 := Lib.hid hb1
    clear hb1 HT
    go_wp2_with (first
      | (go_at_call 33; refine (lead_any _ _ HV.out).mono ?_; rintro e w' ⟨rfl, rfl⟩; rw [HE.out.1])
      | (go_at_call 34; refine (trail_any _ _ HV.out HT1.out).mono ?_; rintro e w' ⟨rfl, rfl⟩; rw [HE.out.2])
      | (go_at_call 35; refine (rlead_any _ _ HV.out).mono ?_; rintro e w' ⟨rfl, rfl⟩; rw [HE.out.1, HP2.out])
      | (go_at_call 36; refine (rtrail_any _ _ HV.out).mono ?_; rintro e w' ⟨rfl, rfl⟩; rw [HE.out.2]))
    go_ret
    exact ⟨rfl, HB1.out⟩
end Go.Proofs.YtcbdaemohfpebaaDoor.BitsW
