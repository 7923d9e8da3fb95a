/-
  A WRITER AND A READER BESIDE EACH OTHER, AND THE DOCUMENT's EXAMPLE.
-/
import Derived.Test.YtcbdaemohfpebaaDoorBitsOne
import Derived.Test.YtcbdaemohfpebaaDoorBitsMore
import Derived.Test.YtcbdaemohfpebaaDoorBitsShelf
import Derived.Test.YtcbdaemohfpebaaDoorBitsLead
import Derived.Test.YtcbdaemohfpebaaDoorFront
import Derived.Deep.RegionWith
namespace Go.Proofs.YtcbdaemohfpebaaDoor.BitsW
open Go.RowKit Go.Shelf BitsM
/-- Since w: a writer in bw, a reader in br, both of the call's own. -/
structure Both (w W : World) (bw br : Nat) (b : List Bool) (s : ByteArray) (p : Nat) : Prop where
  below : Below w.heap.size w W
  wr : ∃ rb, WriterAt W bw rb b ∧ rb ≠ some br ∧ ∀ g, rb = some g → w.heap.size ≤ g
  rd : ReaderAt W br s p
  ne : bw ≠ br
  hb : w.heap.size ≤ bw
  hr : w.heap.size ≤ br
theorem Both.later {w W W' : World} {bw br : Nat} {b : List Bool} {s : ByteArray} {p : Nat} (h : Both w W bw br b s p) (hb : Below W.heap.size W W') : Both w W' bw br b s p := by
  obtain ⟨rb, h1, h2, h3⟩ := h.wr
  exact ⟨h.below.trans (hb.mono h.below.size), ⟨rb, h1.later hb, h2, h3⟩, h.rd.later hb, h.ne, h.hb, h.hr⟩
theorem Both.got {w W W' : World} {bw br : Nat} {b : List Bool} {s : ByteArray} {p q : Nat} (h : Both w W bw br b s p) (hr : Read W br s q W') : Both w W' bw br b s q := by
  obtain ⟨rb, h1, h2, h3⟩ := h.wr
  refine ⟨h.below.trans ⟨hr.os, hr.tape, hr.output, hr.size, fun k hk => hr.old k (Nat.lt_of_lt_of_le hk h.below.size) (by have := h.hr; omega)⟩, ⟨rb, ?_, h2, h3⟩, hr.rd, h.ne, h.hb, h.hr⟩
  refine h1.of_blocks (fun cs t fr hx => (hr.old _ (Array.getElem?_eq_some_iff.1 hx).1 h.ne).trans hx) (fun g hg cs t fr hx => (hr.old _ (Array.getElem?_eq_some_iff.1 hx).1 ?_).trans hx)
  intro e; subst e; exact h2 hg
theorem Both.put {w W : World} {bw br : Nat} {b : List Bool} {s : ByteArray} {p : Nat} (h : Both w W bw br b s p) (hl : b.length + 64 ≤ 1099511627776) (v n : Int) (hv0 : 0 ≤ v) (hv1 : v < 18446744073709551616) :
    Calls Tryd.prog 21 #[.pointer (some ⟨bw, 0, none⟩), .int .u64 v, .int .i64 n] W fun e W' => e = .returned (.tuple #[]) ∧ Both w W' bw br (b ++ msb v.toNat (within n)) s p := by
  obtain ⟨rb, h1, h2, h3⟩ := h.wr
  refine (put_any bw rb b v n W h1 hl hv0 hv1).mono ?_
  rintro e W' ⟨rfl, q⟩
  refine ⟨rfl, ?_⟩
  obtain ⟨rb', q1, q2⟩ := q.wr
  have hbr : br < W.heap.size := (Array.getElem?_eq_some_iff.1 h.rd).1
  have hold := h.below.size
  have rdk : ReaderAt W' br s p := (q.old br hbr (Ne.symm h.ne) (Ne.symm h2)).trans h.rd
  refine ⟨h.below.trans ⟨q.os, q.tape, q.output, q.size, fun k hk => q.old k (by omega) (by have := h.hb; omega) (fun e => by have := h3 k e.symm; omega)⟩, ⟨rb', q1, ?_, ?_⟩, rdk, h.ne, h.hb, h.hr⟩
  · rcases q2 with q2 | ⟨g, q2, q3⟩
    · rw [q2]; exact h2
    · rw [q2]; intro e; cases e; omega
  · intro g hg
    rcases q2 with q2 | ⟨g', q2, q3⟩
    · exact h3 g (q2 ▸ hg)
    · rw [q2] at hg; cases hg; omega
theorem Tab.later {W W' : World} (h : Tab W) (hb : Below W.heap.size W W') : Tab W' := by
  intro j hj
  have h1 := h j hj
  exact (World.cell?_of_block (hb.block _ (World.block_lt_of_cell? W _ h1))).trans h1
theorem conv_one (y : UInt8) (w : World) : (convert 73 9 (.slice (some ⟨w.heap.size, 0, none⟩) 1 1)).run Tryd.prog (w.alloc (.cells #[.int .u8 (y.toNat : Int)] 5 (0, 0))) = .ok (.string ⟨#[y]⟩) (w.alloc (.cells #[.int .u8 (y.toNat : Int)] 5 (0, 0))) :=
  Holds.conv (P := Tryd.prog) (l := [y]) (heap_alloc_new w _) Tryd.underlying73 Tryd.underlying5 Tryd.underlying9 1 rfl 1
set_option maxRecDepth 100000 in
set_option maxHeartbeats 4000000 in
theorem works_any (w : World) (hT : Tab w) :
    Calls Tryd.prog 19 #[] w fun e w' => e = .returned (.bool true) ∧ Below w.heap.size w w' := by
  have HT := Lib.hid hT
  clear hT
  go_enter Tryd.func19, Tryd.ntmps19
  go_wp2_with fail
  refine (newWriter_any _).mono ?_
  rintro e w1 ⟨rfl, hw1, hb1, hs1⟩
  have hcv : (convert 73 9 (.slice (some ⟨w1.heap.size, 0, none⟩) 1 1)).run Tryd.prog (w1.alloc (.cells #[.int .u8 168] 5 (0, 0))) = .ok (.string ⟨#[168]⟩) (w1.alloc (.cells #[.int .u8 168] 5 (0, 0))) := conv_one 168 w1
  have HW1 := Lib.hid (And.intro hw1 (And.intro hb1 hs1))
  clear hw1 hb1 hs1
  go_wp2_with fail
  refine (newReader_any _ _).mono ?_
  rintro e w2 ⟨rfl, hr2, hb2, hs2⟩
  obtain ⟨hw1, hb1, hs1⟩ := HW1.out
  have hb2' : Below w1.heap.size w1 w2 := ((Below.refl _ _).alloc (Nat.le_refl _) _).trans (hb2.mono (by simp))
  have B2 : Both w w2 w.heap.size (w1.heap.size + 1) [] ⟨#[168]⟩ 0 := ⟨hb1.trans (hb2'.mono hb1.size), ⟨none, hw1.later hb2', by simp, fun g h => by cases h⟩, by simpa using hr2, by omega, Nat.le_refl _, by omega⟩
  rw [show (w1.alloc (.cells #[.int .u8 168] 5)).heap.size = w1.heap.size + 1 from by simp]
  clear hr2 hb2 hs2 hw1 hb1 hs1 hb2' HW1 hcv
  generalize w1.heap.size + 1 = br at B2 ⊢
  obtain ⟨bw, hbw⟩ : ∃ bw, w.heap.size = bw := ⟨_, rfl⟩
  rw [hbw]
  have B2' : Both w w2 bw br [] ⟨#[168]⟩ 0 := hbw ▸ B2
  have HB2 := Lib.hid B2'
  clear B2 B2' hbw
  go_wp2_with fail
  refine (HB2.out.put (by decide) 5 3 (by decide) (by decide)).mono ?_
  rintro e w3 ⟨rfl, B3⟩
  rw [show ([] : List Bool) ++ msb (5 : Int).toNat (within 3) = [true, false, true] from by decide] at B3
  have HB3 := Lib.hid B3
  clear B3 HB2
  go_wp2_with fail
  refine (HB3.out.put (by decide) 1 2 (by decide) (by decide)).mono ?_
  rintro e w4 ⟨rfl, B4⟩
  rw [show [true, false, true] ++ msb (1 : Int).toNat (within 2) = [true, false, true, false, true] from by decide] at B4
  have HB4 := Lib.hid B4
  clear B4 HB3
  go_wp2_with fail
  refine (get_some br ⟨#[168]⟩ 0 3 _ HB4.out.rd (by decide) (by decide)).mono ?_
  rintro e w5 ⟨rfl, R5⟩
  rw [show numB (((unpack (⟨#[168]⟩ : ByteArray).data.toList).drop 0).take (within 3)) = 5 from by decide]
  have B5 := HB4.out.got R5
  rw [show 0 + within 3 = 3 from by decide] at B5
  have HB5 := Lib.hid B5
  clear B5 R5 HB4
  go_wp2_with fail
  refine (get_some br ⟨#[168]⟩ 3 2 _ HB5.out.rd (by decide) (by decide)).mono ?_
  rintro e w6 ⟨rfl, R6⟩
  rw [show numB (((unpack (⟨#[168]⟩ : ByteArray).data.toList).drop 3).take (within 2)) = 1 from by decide]
  have B6 := HB5.out.got R6
  rw [show 3 + within 2 = 5 from by decide] at B6
  have HB6 := Lib.hid B6
  clear B6 R6 HB5
  go_wp2_with fail
  refine (clean_small br ⟨#[168]⟩ 5 _ HB6.out.rd (by decide) (by decide) (by decide)).mono ?_
  rintro e w7 ⟨rfl, b7⟩
  rw [show decide (numB ((unpack (⟨#[168]⟩ : ByteArray).data.toList).drop 5) = 0) = true from by decide]
  have HB7 := Lib.hid (HB6.out.later b7)
  clear b7 HB6
  go_wp2_with fail
  refine (get_none br ⟨#[168]⟩ 5 4 _ HB7.out.rd (by decide) (by decide) (by decide)).mono ?_
  rintro e w8 ⟨rfl, R8⟩
  have HB8 := Lib.hid (HB7.out.got R8)
  clear R8 HB7
  obtain ⟨rb, hwr, -, -⟩ := HB8.out.wr
  have HWR := Lib.hid (fun (W : World) (h : Below w8.heap.size w8 W) => hwr.later h)
  have HRD := Lib.hid (fun (W : World) (h : Below w8.heap.size w8 W) => HB8.out.rd.later h)
  have HTB := Lib.hid (fun (W : World) (h : Below w8.heap.size w8 W) => Tab.later HT.out (Go.Proofs.YtcbdaemohfpebaaDoor.later HB8.out.below h))
  have HBW := Lib.hid (fun (W : World) (h : Below w8.heap.size w8 W) => Go.Proofs.YtcbdaemohfpebaaDoor.later HB8.out.below h)
  have hcv : (convert 73 9 (.slice (some ⟨w8.heap.size, 0, none⟩) 1 1)).run Tryd.prog (w8.alloc (.cells #[.int .u8 168] 5 (0, 0))).drew = .ok (.string ⟨#[168]⟩) (w8.alloc (.cells #[.int .u8 168] 5 (0, 0))).drew :=
    Holds.conv (P := Tryd.prog) (l := [168]) (show (w8.alloc (.cells #[.int .u8 168] 5 (0, 0))).drew.heap[w8.heap.size]? = _ from heap_alloc_new w8 _) Tryd.underlying73 Tryd.underlying5 Tryd.underlying9 1 rfl 1
  clear hwr HB8 HT
  go_wp2_with fail
  have HCV := Lib.hid hcv
  clear hcv
  have q0 : ∀ W : World, Below w8.heap.size w8 W → Calls Tryd.prog 24 #[.pointer (some ⟨bw, 0, none⟩)] W fun e w' => e = .returned (.string ⟨#[168]⟩) ∧ W = w' := fun W h => (bytes_any bw rb _ W (HWR.out W h)).mono fun e w' h2 => by
    rw [show pack [true, false, true, false, true] = [168] from by decide] at h2; exact h2
  have Q0 := Lib.hid q0
  have bA : Below w8.heap.size w8 w8.drew := Below.drew (Below.refl _ _)
  have bB : Below w8.heap.size w8 (w8.drew.alloc (.cells #[.int .u8 168] 5)) := bA.alloc (Nat.le_refl _) _
  obtain ⟨i0, hi0, hz0, hz1, -⟩ := info_parts (show Elem Tryd.prog 5 (.int .u8 0) 1 1 by unfold Elem; kernel_rfl)
  have hbs := run_buildSlice (P := Tryd.prog) w8.drew 73 5 1 #[(0, .int .u8 168)] #[.int .u8 168] i0 (.int .u8 0) (by kernel_rfl) hi0 hz0 (by rw [hz1]; decide) (by rw [hz1]; decide) (by rw [hz1]; kernel_rfl)
  clear q0 hi0 hz0 hz1
  refine wp_region_any (by kernel_rfl) ?_
  refine wpAny_five 44 (some 41) (some 42) (some 43) (some 44) (some 45) (.pointer (some ⟨bw, 0, none⟩)) (.string ⟨#[168]⟩) (.slice (some ⟨w8.heap.size, 0, none⟩) 1 1) (.string ⟨#[168]⟩) (.bool true)
    ((((((Array.replicate 49 false).setIfInBounds 0 true).setIfInBounds 1 true).setIfInBounds 2 true).setIfInBounds 3 true).setIfInBounds 4 true) (w8.drew.alloc (.cells #[.int .u8 168] 5)) ?front ?tail
  case front =>
    intro K hK
    have hcv2 : (convert 73 9 (.slice (some ⟨w8.heap.size, 0, none⟩) 1 1)).run Tryd.prog (w8.drew.alloc (.cells #[.int .u8 168] 5)) = .ok (.string ⟨#[168]⟩) (w8.drew.alloc (.cells #[.int .u8 168] 5)) := HCV.out
    refine front_two (i := 0) (k := 2) (by kernel_rfl) ?_ ?_
    · refine op_val (.pointer (some ⟨bw, 0, none⟩)) _ rfl rfl rfl ?_
      refine front_two (i := 1) (k := 2) (by kernel_rfl) ?_ ?_
      · refine op_call (.string ⟨#[168]⟩) 24 #[.pointer (some ⟨bw, 0, none⟩)] rfl rfl (by have en := enters_of Tryd.func24 (by kernel_rfl) rfl; unfold execOp; go_simp) (Q0.out _ bA) ?_
        refine front_one (i := 2) (by kernel_rfl) ?_
        refine op_val (.slice (some ⟨w8.heap.size, 0, none⟩) 1 1) (w8.drew.alloc (.cells #[.int .u8 168] 5)) rfl rfl (by unfold execOp; go_simp) ?_
        refine front_one (i := 3) (by kernel_rfl) ?_
        refine op_val (.string ⟨#[168]⟩) (w8.drew.alloc (.cells #[.int .u8 168] 5)) rfl rfl (by have h3 := HCV.out; unfold execOp; go_simp) ?_
        refine front_one (i := 4) (by kernel_rfl) ?_
        refine op_val (.bool true) (w8.drew.alloc (.cells #[.int .u8 168] 5)) rfl rfl (by unfold execOp; go_simp) ?_
        exact K_conv hK (by kernel_rfl) (by kernel_rfl) rfl
      · refine op_val (.slice (some ⟨w8.heap.size, 0, none⟩) 1 1) (w8.drew.alloc (.cells #[.int .u8 168] 5)) rfl rfl (by unfold execOp; go_simp) ?_
        refine front_two (i := 1) (k := 3) (by kernel_rfl) ?_ ?_
        · refine op_call (.string ⟨#[168]⟩) 24 #[.pointer (some ⟨bw, 0, none⟩)] rfl rfl (by have en := enters_of Tryd.func24 (by kernel_rfl) rfl; unfold execOp; go_simp) (Q0.out _ bB) ?_
          refine front_one (i := 3) (by kernel_rfl) ?_
          refine op_val (.string ⟨#[168]⟩) (w8.drew.alloc (.cells #[.int .u8 168] 5)) rfl rfl (by have h3 := HCV.out; unfold execOp; go_simp) ?_
          refine front_one (i := 4) (by kernel_rfl) ?_
          refine op_val (.bool true) (w8.drew.alloc (.cells #[.int .u8 168] 5)) rfl rfl (by unfold execOp; go_simp) ?_
          exact K_conv hK (by kernel_rfl) (by kernel_rfl) rfl
        · refine op_val (.string ⟨#[168]⟩) (w8.drew.alloc (.cells #[.int .u8 168] 5)) rfl rfl (by have h3 := HCV.out; unfold execOp; go_simp) ?_
          refine front_one (i := 1) (by kernel_rfl) ?_
          refine op_call (.string ⟨#[168]⟩) 24 #[.pointer (some ⟨bw, 0, none⟩)] rfl rfl (by have en := enters_of Tryd.func24 (by kernel_rfl) rfl; unfold execOp; go_simp) (Q0.out _ bB) ?_
          refine front_one (i := 4) (by kernel_rfl) ?_
          refine op_val (.bool true) (w8.drew.alloc (.cells #[.int .u8 168] 5)) rfl rfl (by unfold execOp; go_simp) ?_
          exact K_conv hK (by kernel_rfl) (by kernel_rfl) rfl
    · refine op_val (.slice (some ⟨w8.heap.size, 0, none⟩) 1 1) (w8.drew.alloc (.cells #[.int .u8 168] 5)) rfl rfl (by unfold execOp; go_simp) ?_
      refine front_two (i := 0) (k := 3) (by kernel_rfl) ?_ ?_
      · refine op_val (.pointer (some ⟨bw, 0, none⟩)) _ rfl rfl rfl ?_
        refine front_two (i := 1) (k := 3) (by kernel_rfl) ?_ ?_
        · refine op_call (.string ⟨#[168]⟩) 24 #[.pointer (some ⟨bw, 0, none⟩)] rfl rfl (by have en := enters_of Tryd.func24 (by kernel_rfl) rfl; unfold execOp; go_simp) (Q0.out _ bB) ?_
          refine front_one (i := 3) (by kernel_rfl) ?_
          refine op_val (.string ⟨#[168]⟩) (w8.drew.alloc (.cells #[.int .u8 168] 5)) rfl rfl (by have h3 := HCV.out; unfold execOp; go_simp) ?_
          refine front_one (i := 4) (by kernel_rfl) ?_
          refine op_val (.bool true) (w8.drew.alloc (.cells #[.int .u8 168] 5)) rfl rfl (by unfold execOp; go_simp) ?_
          exact K_conv hK (by kernel_rfl) (by kernel_rfl) rfl
        · refine op_val (.string ⟨#[168]⟩) (w8.drew.alloc (.cells #[.int .u8 168] 5)) rfl rfl (by have h3 := HCV.out; unfold execOp; go_simp) ?_
          refine front_one (i := 1) (by kernel_rfl) ?_
          refine op_call (.string ⟨#[168]⟩) 24 #[.pointer (some ⟨bw, 0, none⟩)] rfl rfl (by have en := enters_of Tryd.func24 (by kernel_rfl) rfl; unfold execOp; go_simp) (Q0.out _ bB) ?_
          refine front_one (i := 4) (by kernel_rfl) ?_
          refine op_val (.bool true) (w8.drew.alloc (.cells #[.int .u8 168] 5)) rfl rfl (by unfold execOp; go_simp) ?_
          exact K_conv hK (by kernel_rfl) (by kernel_rfl) rfl
      · refine op_val (.string ⟨#[168]⟩) (w8.drew.alloc (.cells #[.int .u8 168] 5)) rfl rfl (by have h3 := HCV.out; unfold execOp; go_simp) ?_
        refine front_one (i := 0) (by kernel_rfl) ?_
        refine op_val (.pointer (some ⟨bw, 0, none⟩)) _ rfl rfl rfl ?_
        refine front_one (i := 1) (by kernel_rfl) ?_
        refine op_call (.string ⟨#[168]⟩) 24 #[.pointer (some ⟨bw, 0, none⟩)] rfl rfl (by have en := enters_of Tryd.func24 (by kernel_rfl) rfl; unfold execOp; go_simp) (Q0.out _ bB) ?_
        refine front_one (i := 4) (by kernel_rfl) ?_
        refine op_val (.bool true) (w8.drew.alloc (.cells #[.int .u8 168] 5)) rfl rfl (by unfold execOp; go_simp) ?_
        exact K_conv hK (by kernel_rfl) (by kernel_rfl) rfl
  case tail =>
    refine any_seq 5 44 (by kernel_rfl) (by kernel_rfl) ?_
    simp only [List.drop_succ_cons, List.drop_zero]
    have bC := bB
    generalize hA : w8.drew.alloc (.cells #[.int .u8 168] 5) = wA at bC ⊢
    clear hA hbs bA bB
    go_wp2_with fail
    refine (len_any bw rb _ _ (HWR.out _ bC)).mono ?_
    rintro e w' ⟨rfl, rfl⟩
    rw [show (([true, false, true, false, true] : List Bool).length : Int) = 5 from by decide]
    go_wp2_with fail
    refine (left_below br _ 5 _ (HRD.out _ bC) (by decide) (by decide)).mono ?_
    rintro e w10 ⟨rfl, hb10, -⟩
    have bD := Go.Proofs.YtcbdaemohfpebaaDoor.later bC hb10
    rw [show ((8 * (⟨#[168]⟩ : ByteArray).size - 5 : Nat) : Int) = 3 from by decide]
    clear bC hb10
    go_wp2_with fail
    refine (lead_any 1 _ (by decide)).mono ?_
    rintro e w' ⟨rfl, rfl⟩
    rw [show (64 - (Lib.bitLen 1 : Int)) = 63 from by decide]
    go_wp2_with fail
    refine (trail_any 8 _ (by decide) (HTB.out _ bD)).mono ?_
    rintro e w' ⟨rfl, rfl⟩
    rw [show ((Lib.ctz 64 8 : Nat) : Int) = 3 from by decide]
    go_wp2_with fail
    refine (lead_any 0 _ (by decide)).mono ?_
    rintro e w' ⟨rfl, rfl⟩
    rw [show (64 - (Lib.bitLen 0 : Int)) = 64 from by decide]
    go_wp2_with fail
    go_ret
    exact ⟨rfl, HBW.out _ bD⟩
end Go.Proofs.YtcbdaemohfpebaaDoor.BitsW
