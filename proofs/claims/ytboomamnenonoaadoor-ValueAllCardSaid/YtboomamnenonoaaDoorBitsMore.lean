/-
  THE SMALL FUNCTIONS OF bits: NewWriter, Len, Bytes, NewReader, Clean.
-/
import Derived.Test.YtboomamnenonoaaDoorBitsGet
namespace Go.Proofs.YtboomamnenonoaaDoor.BitsW
open Go.RowKit Go.Shelf BitsM
theorem newWriter_any (w : World) : Calls Tryd.prog 14 #[] w fun e w' => e = .returned (.pointer (some ⟨w.heap.size, 0, none⟩)) ∧ WriterAt w' w.heap.size none [] ∧ Below w.heap.size w w' ∧ w.heap.size < w'.heap.size := by
  go_enter Tryd.func14, Tryd.ntmps14
  go_wp2
  go_ret
  refine ⟨rfl, ⟨.slice none 0 0, heap_at _ _ rfl, rfl, by simp, by simp [byteCells, pack], .inl ⟨rfl, by simp [pack]⟩⟩, (Below.refl _ _).alloc (Nat.le_refl _) _, by simp⟩
theorem newReader_any (s : ByteArray) (w : World) : Calls Tryd.prog 19 #[.string s] w fun e w' => e = .returned (.pointer (some ⟨w.heap.size, 0, none⟩)) ∧ ReaderAt w' w.heap.size s 0 ∧ Below w.heap.size w w' ∧ w.heap.size < w'.heap.size := by
  go_enter Tryd.func19, Tryd.ntmps19
  go_wp2
  go_ret
  refine ⟨rfl, heap_at _ _ rfl, (Below.refl _ _).alloc (Nat.le_refl _) _, by simp⟩
theorem len_any (bw : Nat) (rb : Option Nat) (b : List Bool) (w : World) (hw : WriterAt w bw rb b) : Calls Tryd.prog 16 #[.pointer (some ⟨bw, 0, none⟩)] w fun e w' => e = .returned (.int .i64 (b.length : Int)) ∧ w = w' := by
  obtain ⟨sv, hbw, -, -, -⟩ := hw
  have hc1 : w.cell? ⟨bw, 1, none⟩ = some (.int .i64 (b.length : Int)) := by rw [cell_of_row w _ _ _ _ _ hbw]; rfl
  clear hbw
  go_enter Tryd.func16, Tryd.ntmps16
  go_wp2
  go_ret
  exact ⟨rfl, rfl⟩
theorem bytes_any (bw : Nat) (rb : Option Nat) (b : List Bool) (w : World) (hw : WriterAt w bw rb b) : Calls Tryd.prog 27 #[.pointer (some ⟨bw, 0, none⟩)] w fun e w' => e = .returned (.string ⟨(pack b).toArray⟩) ∧ w = w' := by
  obtain ⟨sv, hbw, -, -, hrow⟩ := hw
  have hc0 : w.cell? ⟨bw, 0, none⟩ = some sv := by rw [cell_of_row w _ _ _ _ _ hbw]; rfl
  have hconv := conv_owned (P := Tryd.prog) (src := 55) (dst := 9) Tryd.underlying55 Tryd.underlying5 Tryd.underlying9 hrow
  clear hbw hrow
  go_enter Tryd.func27, Tryd.ntmps27
  go_wp2
  go_ret
  exact ⟨rfl, rfl⟩
theorem left_below (br : Nat) (s : ByteArray) (p : Nat) (w : World) (hr : ReaderAt w br s p) (hs : s.size ≤ 137438953472) (hp : p ≤ 8 * s.size) :
    Calls Tryd.prog 33 #[.pointer (some ⟨br, 0, none⟩)] w fun e w' => e = .returned (.int .i64 ((8 * s.size - p : Nat) : Int)) ∧ Below w.heap.size w w' ∧ w'.heap.size = w.heap.size :=
  (left_any br s p w hr hs hp).mono fun _ _ ⟨h1, n, h2⟩ => by subst h2; exact ⟨h1, ⟨rfl, rfl, rfl, Nat.le_refl _, fun _ _ => rfl⟩, rfl⟩
set_option maxHeartbeats 1000000 in
theorem clean_big (br : Nat) (s : ByteArray) (p : Nat) (w : World) (hr : ReaderAt w br s p) (hs : s.size ≤ 68719476736) (hp : p + 8 ≤ 8 * s.size) :
    Calls Tryd.prog 22 #[.pointer (some ⟨br, 0, none⟩)] w fun e w' => e = .returned (.bool false) ∧ ∃ n, w.drewN n = w' := by
  have HP := Lib.hid (show s.size ≤ 137438953472 ∧ p ≤ 8 * s.size by omega)
  have HR := Lib.hid hr
  have hge : (8 : Int) ≤ ((8 * s.size - p : Nat) : Int) := by omega
  clear hr hs hp
  generalize hL : 8 * s.size - p = L at *
  go_enter Tryd.func22, Tryd.ntmps22
  go_wp2_with (go_at_call 33; refine (left_any br s p _ HR.out HP.out.1 HP.out.2).mono ?_; rintro e w' ⟨rfl, nq, rfl⟩; rw [hL])
  go_ret
  exact ⟨rfl, _, rfl⟩
set_option maxHeartbeats 1000000 in
theorem clean_small (br : Nat) (s : ByteArray) (p : Nat) (w : World) (hr : ReaderAt w br s p) (hs : s.size ≤ 68719476736) (hp : 8 * s.size < p + 8) (hp2 : p ≤ 8 * s.size) :
    Calls Tryd.prog 22 #[.pointer (some ⟨br, 0, none⟩)] w fun e w' => e = .returned (.bool (decide (numB ((unpack s.data.toList).drop p) = 0))) ∧ Below w.heap.size w w' := by
  have HP := Lib.hid (show s.size ≤ 137438953472 ∧ p ≤ 8 * s.size by omega)
  have HS := Lib.hid hs
  have HR := Lib.hid hr
  have hge : ((8 * s.size - p : Nat) : Int) < 8 := by omega
  have hwi : within ((8 * s.size - p : Nat) : Int) = 8 * s.size - p := by unfold within; omega
  have b0 := hr.f0
  have b1 := hr.f1
  have hub : (unpack s.data.toList).length = 8 * s.size := by rw [unpack_length]; simp
  have htk : ((unpack s.data.toList).drop p).take (8 * s.size - p) = (unpack s.data.toList).drop p := List.take_of_length_le (by rw [List.length_drop, hub]; omega)
  have HW := Lib.hid (And.intro hwi (And.intro htk (show p + (8 * s.size - p) ≤ 8 * s.size by omega)))
  clear hr hs hp hp2 hwi hub htk
  generalize hL : 8 * s.size - p = L at *
  go_enter Tryd.func22, Tryd.ntmps22
  go_wp2_with fail
  refine (left_below br s p _ HR.out HP.out.1 HP.out.2).mono ?_
  rintro e w1 ⟨rfl, hb1, hz1⟩
  rw [hL]
  have c0 : w1.cell? ⟨br, 0, none⟩ = some (.string s) := (World.cell?_of_block (hb1.block br (Array.getElem?_eq_some_iff.1 HR.out).1)).trans b0
  have c1 : w1.cell? ⟨br, 1, none⟩ = some (.int .i64 (p : Int)) := (World.cell?_of_block (hb1.block br (Array.getElem?_eq_some_iff.1 HR.out).1)).trans b1
  go_wp2_with fail
  have r2 : ReaderAt (w1.alloc (.cells #[.string s, .int .i64 (p : Int)] 63)) w.heap.size s p := heap_at _ _ hz1.symm
  have hb2 : Below w.heap.size w (w1.alloc (.cells #[.string s, .int .i64 (p : Int)] 63)) := hb1.alloc (by omega) _
  have HR2 := Lib.hid r2
  have HB2 := Lib.hid hb2
  clear r2 hb2 hb1
  generalize w1.alloc (.cells #[.string s, .int .i64 (p : Int)] 63) = w2 at *
  refine (left_below w.heap.size s p _ HR2.out HP.out.1 HP.out.2).mono ?_
  rintro e w3 ⟨rfl, hb3, hz3⟩
  rw [hL]
  have r3 : ReaderAt w3 w.heap.size s p := (hb3.block _ (Array.getElem?_eq_some_iff.1 HR2.out).1).trans HR2.out
  have HR3 := Lib.hid r3
  have HB3 := Lib.hid (later HB2.out hb3)
  clear r3 hb3
  go_wp2_with fail
  refine (get_some w.heap.size s p (L : Int) _ HR3.out HS.out (by rw [HW.out.1]; exact HW.out.2.2)).mono ?_
  rintro e w4 ⟨rfl, hrd⟩
  have HB4 : Below w.heap.size w w4 := HB3.out.trans ⟨hrd.os, hrd.tape, hrd.output, hrd.size, fun k hk => hrd.old k (Nat.lt_of_lt_of_le hk HB3.out.size) (by omega)⟩
  rw [HW.out.1, HW.out.2.1]
  have HB5 := Lib.hid HB4
  clear hrd HB4 HR HR2 HR3 HB2 HB3 c0 c1 b0 b1
  obtain ⟨v, hv⟩ : ∃ v, numB ((unpack s.data.toList).drop p) = v := ⟨_, rfl⟩
  rw [hv]
  have HV := Lib.hid hv
  clear hv
  go_wp2
  go_ret
  refine ⟨?_, HB5.out⟩
  have e : ((v : Int) == 0) = decide (v = 0) := by by_cases h : v = 0 <;> simp [h]
  rw [HV.out, ← e]
  rfl
end Go.Proofs.YtboomamnenonoaaDoor.BitsW
