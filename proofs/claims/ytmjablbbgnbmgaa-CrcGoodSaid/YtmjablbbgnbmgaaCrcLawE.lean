/-
  THE STATEMENT CrcGood (alluviumlaw01): its walk.
-/
import Derived.Test.YtmjablbbgnbmgaaCrcLawB
import Derived.Test.YtmjablbbgnbmgaaOpen
namespace Go.Proofs.Ytmjablbbgnbmgaa.CrcW
open Go.RowKit CrcM
/-- What Good may answer, whatever came in. -/
def GoodAns (s : ByteArray) (w : World) (e : Ending) (w' : World) : Prop := ∃ (u : ByteArray) (ok : Bool), e = .returned (.tuple #[.string u, .bool ok]) ∧ (ok = true → u.size + 4 = s.size) ∧ Below w.heap.size w w'
theorem good_any (s : ByteArray) (w : World) (hs : s.size ≤ maxLen) : Calls Try.prog 10 #[.string s] w (GoodAns s w) := by
  by_cases h4 : s.size < 4
  · exact (good_short s w h4).mono fun e w' ⟨he, hw⟩ => ⟨_, _, he, (fun h => by cases h), hw ▸ Below.refl _ _⟩
  · by_cases hr : Right s.data.toList
    · exact (good_yes s w hs (by omega) hr).mono fun e w' ⟨he, hw⟩ => ⟨_, _, he, (fun _ => by rw [ahead_size]; omega), hw⟩
    · exact (good_no s w hs (by omega) hr).mono fun e w' ⟨he, hw⟩ => ⟨_, _, he, (fun h => by cases h), hw⟩
theorem conv_one (y : UInt8) (w : World) : (convert 32 9 (.slice (some ⟨w.heap.size, 0, none⟩) 1 1)).run Try.prog (w.alloc (.cells #[.int .u8 (y.toNat : Int)] 5 (0, 0))) = .ok (.string ⟨#[y]⟩) (w.alloc (.cells #[.int .u8 (y.toNat : Int)] 5 (0, 0))) :=
  Holds.conv (P := Try.prog) (l := [y]) (heap_alloc_new w _) Try.underlying32 Try.underlying5 Try.underlying9 1 rfl 1
set_option maxHeartbeats 2000000 in
theorem crcGood_in (b : ByteArray) (x : UInt8) (w : World) (hb : b.size ≤ 600) :
    Calls Try.prog 6 #[.string b, .int .u8 (x.toNat : Int)] w fun e w' => e = .returned (.bool true) ∧ Below w.heap.size w w' := by
  have hb' : ¬ (600 : Int) < (b.size : Int) := by omega
  have mb := small_size b (by omega)
  obtain ⟨t, ht⟩ : ∃ t : ByteArray, t = ⟨(ctail b.data.toList).toArray⟩ := ⟨_, rfl⟩
  have zt : t.size = 4 := by rw [ht]; simp [ByteArray.size, ctail_length]
  obtain ⟨r1, r2, r3⟩ := right_own b t (by rw [ht])
  have m1 := small_size (b ++ t) (by rw [app_size]; omega)
  have E : (t.size : Int) = 4 := by omega
  have HT := Lib.hid ht
  have HR := Lib.hid (And.intro r2 r3)
  clear ht r2 r3
  go_enter Try.func6, Try.ntmps6
  go_wp2_with fail
  refine (works_any _).mono ?_
  rintro e w1 ⟨rfl, hb1⟩
  go_wp2_with fail
  refine (tail_any _ _ mb).mono ?_
  rintro e w2 ⟨rfl, hb2⟩
  rw [← HT.out]
  go_wp2_with fail
  refine (good_yes _ _ m1 r1 HR.out.1).mono ?_
  rw [HR.out.2]
  rintro e w3 ⟨rfl, hb3⟩
  have hc1 := conv_one x
  have m2 := small_size (b ++ t ++ ⟨#[x]⟩) (by rw [app_size, app_size, show (⟨#[x]⟩ : ByteArray).size = 1 from rfl]; omega)
  have z2 : (b ++ t ++ (⟨#[x]⟩ : ByteArray)).size = b.size + 5 := by rw [app_size, app_size, show (⟨#[x]⟩ : ByteArray).size = 1 from rfl]; omega
  have Z2 := Lib.hid z2
  clear z2
  go_wp2_with fail
  generalize b ++ t ++ (⟨#[x]⟩ : ByteArray) = big at *
  clear hc1
  refine (good_any _ _ m2).mono ?_
  rintro e w4 ⟨u, o1, rfl, hu, hb4⟩
  have hb4' : Below w3.heap.size w3 w4 := ((Below.refl _ w3).alloc (Nat.le_refl _) _).trans (hb4.mono (by simp))
  have m3 := small_size (b ++ t.extract 0 3) (by rw [app_size, ByteArray.size_extract]; omega)
  have hsl := slice_to (P := Try.prog) Try.underlying9 t 3 3 (by rfl) (by omega)
  have z3 : (b ++ t.extract 0 3).size = b.size + 3 := by rw [app_size, ByteArray.size_extract]; omega
  have Z3 := Lib.hid z3
  have HU := Lib.hid hu
  clear z3 hu hb4
  go_wp2_with fail
  clear hsl
  refine (good_any _ _ m3).mono ?_
  rintro e w5 ⟨v, o2, rfl, hv, hb5⟩
  have k1 : o1 = true → ((u.size : Int) == (b.size : Int) + 1) = true := fun h => by have := HU.out h; have := Z2.out; simp; omega
  have k2 : o2 = true → ((v.size : Int) + 1 == (b.size : Int)) = true := fun h => by have := hv h; have := Z3.out; simp; omega
  have k3 : o2 = true → v.size ≤ 600 := fun h => by have := hv h; have := Z3.out; omega
  clear HU hv Z2 Z3 HT HR m1 m2 m3
  have hfin := later (later (later (later hb1 hb2) hb3) hb4') hb5
  clear hb1 hb2 hb3 hb4' hb5
  cases o1 <;> cases o2
  · clear k1 k2 k3
    go_wp2_with fail
    go_ret
    exact ⟨rfl, hfin⟩
  · have k2' := k2 rfl
    have k3' := k3 rfl
    clear k1 k2 k3
    go_wp2_with fail
    go_ret
    exact ⟨rfl, hfin⟩
  · have k1' := k1 rfl
    clear k1 k2 k3
    go_wp2_with fail
    go_ret
    exact ⟨rfl, hfin⟩
  · have k1' := k1 rfl
    have k2' := k2 rfl
    have k3' := k3 rfl
    clear k1 k2 k3
    go_wp2_with fail
    go_ret
    exact ⟨rfl, hfin⟩
set_option maxHeartbeats 2000000 in
theorem crcGood_out (b : ByteArray) (x : Int) (w : World) (hb : 600 < b.size) :
    Calls Try.prog 6 #[.string b, .int .u8 x] w fun e w' => e = .returned (.bool true) ∧ Below w.heap.size w w' := by
  have hb' : (600 : Int) < (b.size : Int) := by omega
  go_enter Try.func6, Try.ntmps6
  go_wp2_with fail
  refine (works_any _).mono ?_
  rintro e w1 ⟨rfl, hb1⟩
  go_wp2_with fail
  go_ret
  exact ⟨rfl, hb1⟩
theorem crcGood_walk (b : ByteArray) (x : Int) (_ : b.size ≤ maxLen) (hx : (Lit.int .u8 x).wf = true) (w : World) :
    Calls Try.prog 6 #[.string b, .int .u8 x] w fun e w' => e = .returned (.bool true) ∧ Below w.heap.size w w' := by
  by_cases h : 600 < b.size
  · exact crcGood_out b x w h
  · have hb := bounds_u8 hx
    have : x = ((UInt8.ofNat x.toNat).toNat : Int) := by simp; omega
    rw [this]
    exact crcGood_in b _ w (by omega)
end Go.Proofs.Ytmjablbbgnbmgaa.CrcW
