/-
  StampAll: THE WALK.
-/
import Derived.Test.YtdnipfkpfdglnaaStRefI
import Derived.Test.YtdnipfkpfdglnaaStLawB
namespace Go.Proofs.Ytdnipfkpfdglnaa.StW
open Go.RowKit Go.Shelf BitsM BitsW StM
set_option maxRecDepth 20000 in
set_option maxHeartbeats 4000000 in
theorem stampAll_all (A : Option Addr) (n c : Nat) (l : List Int) (B : ByteArray) (k : Int) (w : World) (hl : Comes w 1 encI okI A n c l) (hB : B.size ≤ maxLen) :
    Calls Try.prog 5 #[.slice A n c, .string B, .int .i64 k] w fun e w' => e = .returned (.bool true) ∧ Below w.heap.size w w' := by
  have HL := Lib.hid hl
  have hcap : c ≤ 9223372036854775807 := hl.cap
  have hle := hl.le
  have hB' : B.size ≤ 9223372036854775807 := hB
  clear hl hB
  go_enter Try.func5, Try.ntmps5
  go_wp2_with fail
  refine (works_any _).mono ?_
  rintro e w1 ⟨rfl, hb1⟩
  have HB1 := Lib.hid hb1
  clear hb1
  by_cases n60 : 60 < n
  · go_wp2_with fail
    go_ret
    exact ⟨rfl, HB1.out⟩
  by_cases b60 : 60 < B.size
  · go_wp2_with fail
    go_ret
    exact ⟨rfl, HB1.out⟩
  have HR1 := Lib.hid (fun W => read_any B k W (by omega))
  have HR2 := Lib.hid (fun W => rread_any B k W (by omega))
  obtain ⟨R, hR⟩ : ∃ R, readB (unpack B.data.toList) k = R := ⟨_, rfl⟩
  rw [hR] at HR1 HR2
  clear hR
  go_wp2_with fail
  refine (HR1.out _).mono ?_
  rintro e w2 ⟨A2, k2, c2, rfl, hc2, hb2⟩
  have HB2 := Lib.hid (later HB1.out hb2)
  have HC2 := Lib.hid hc2
  clear hb2 hc2
  go_wp2_with fail
  refine (HR2.out _).mono ?_
  rintro e w3 ⟨A3, k3, c3, rfl, hc3, hb3⟩
  have HB3 := Lib.hid (later HB2.out hb3)
  have HC3 := Lib.hid hc3
  have HC23 := Lib.hid (HC2.out.later hb3)
  clear hb3 hc3 HC2 HR1 HR2
  go_wp2_with fail
  refine (all_any A n c l _ (HL.out.later HB3.out) (by omega)).mono ?_
  rintro e w4 ⟨rfl, hb4⟩
  have HB4 := Lib.hid (later HB3.out hb4)
  have HC24 := Lib.hid (HC23.out.later hb4)
  have HC34 := Lib.hid (HC3.out.later hb4)
  clear hb4 HC23 HC3
  obtain ⟨sb, hsb⟩ : ∃ sb, (⟨(pack (bitsAll s0 l)).toArray⟩ : ByteArray) = sb := ⟨_, rfl⟩
  rw [hsb]
  have HSB := Lib.hid hsb
  clear hsb
  go_wp2_with fail
  refine (rall_any A n c l _ (HL.out.later HB4.out) (by omega)).mono ?_
  rintro e w5 ⟨rfl, hb5⟩
  rw [HSB.out]
  have HB5 := Lib.hid (later HB4.out hb5)
  have HC25 := Lib.hid (HC24.out.later hb5)
  have HC35 := Lib.hid (HC34.out.later hb5)
  clear hb5 HC24 HC34
  obtain ⟨rb, hrb⟩ : ∃ rb, R.isSome = rb := ⟨_, rfl⟩
  rw [hrb]
  have hbb : (rb == rb) = true := by cases rb <;> rfl
  clear hrb
  go_wp2_with fail
  refine (rsame_any _ _ _ _ _ _ _ _ _ HC25.out HC35.out).mono ?_
  rintro e w6 ⟨rfl, hb6⟩
  rw [decide_eq_true rfl]
  have HB6 := Lib.hid (later HB5.out hb6)
  clear hb6
  go_wp2_with fail
  go_ret
  exact ⟨rfl, HB6.out⟩
end Go.Proofs.Ytdnipfkpfdglnaa.StW
