/-
  alluviumlaw07.works: THE WALK.
-/
import Derived.Test.YtdacefmcnjoboaaMatRow
import Derived.Test.YtdacefmcnjoboaaMatCheck
namespace Go.Proofs.Ytdacefmcnjoboaa.LabW
open Go.RowKit Go.Shelf LabM
def L0 : List Lab := [(⟨#[97]⟩, ⟨#[120, 121]⟩)]
def S0 : List Sam := [(1, 0), (3, 0), (5, 0)]
theorem wf1 : fitsB (0, ⟨#[98]⟩, ⟨#[]⟩) L0 = true := by simp only [fitsB_0, L0, getL, toList_data]; decide
theorem wf2 : fitsB (2, ⟨#[97]⟩, ⟨#[120]⟩) L0 = true := by simp only [fitsB_2, L0, getL, prefB, toList_data]; decide
theorem wf3 : fitsB (1, ⟨#[97]⟩, ⟨#[120, 121]⟩) L0 = false := by simp only [fitsB_1, L0, getL, toList_data]; decide
theorem wc1 : checkMB [(4, ⟨#[97]⟩, ⟨#[]⟩)] = false := by decide
theorem ws1 : sortedL S0 = true := by decide
theorem ws2 : sortedL [(1, 0), (1, 0)] = false := by decide
theorem okS0 : ∀ x ∈ S0, okS x := by
  intro x hx
  have : x = (1, 0) ∨ x = (3, 0) ∨ x = (5, 0) := by simpa [S0] using hx
  rcases this with rfl | rfl | rfl <;> exact ⟨by decide, by decide, by decide, by decide⟩
theorem okL0 : ∀ x ∈ L0, okL x := by
  intro x hx
  have : x = (⟨#[97]⟩, ⟨#[120, 121]⟩) := by simpa [L0] using hx
  subst this
  exact ⟨by decide, by decide⟩
set_option maxRecDepth 100000 in
set_option maxHeartbeats 4000000 in
theorem mworks_any (w : World) :
    Calls Try.prog 10 #[] w fun e w' => e = .returned (.bool true) ∧ Below w.heap.size w w' := by
  go_enter Try.func10, Try.ntmps10
  go_wp2_with fail
  obtain ⟨w2, hw2⟩ : ∃ w2, ((w.alloc (.cells #[.string ⟨#[97]⟩, .string ⟨#[120, 121]⟩] 49)).alloc (.cells #[.int .i64 1, .int .u64 0, .int .i64 3, .int .u64 0, .int .i64 5, .int .u64 0] 52)) = w2 := ⟨_, rfl⟩
  have hb2 : Below w.heap.size w w2 := by rw [← hw2]; exact ((Below.refl _ _).alloc (Nat.le_refl _) _).alloc (by simp) _
  have hL : Comes w2 2 encL okL (some ⟨w.heap.size, 0, none⟩) 1 1 L0 := by rw [← hw2]; exact Comes.block (heap_alloc2_old _ _ _) rfl (fun _ => rfl) rfl (Nat.le_refl _) (by decide) okL0
  have hS : Comes w2 2 encS okS (some ⟨w.heap.size + 1, 0, none⟩) 3 3 S0 := by rw [← hw2]; exact Comes.block (heap_alloc2_new _ _ _) rfl (fun _ => rfl) rfl (Nat.le_refl _) (by decide) okS0
  rw [hw2]
  have HB := Lib.hid hb2
  have HL := Lib.hid hL
  have HS := Lib.hid hS
  clear hw2 hb2 hL hS
  generalize w.heap.size + 1 = b2 at *
  obtain ⟨b1, hb1⟩ : ∃ b1, w.heap.size = b1 := ⟨_, rfl⟩
  rw [hb1] at HL
  rw [hb1]
  clear hb1
  refine (not_any (0, ⟨#[97]⟩, ⟨#[120, 121]⟩) w2).mono ?_
  rintro e w3 ⟨rfl, hb3⟩
  rw [show notM (0, ⟨#[97]⟩, ⟨#[120, 121]⟩) = (1, ⟨#[97]⟩, ⟨#[120, 121]⟩) from rfl, show notB (0, ⟨#[97]⟩, ⟨#[120, 121]⟩) = true from rfl]
  have HB3 := Lib.hid hb3
  clear hb3
  go_wp2_with fail
  obtain ⟨w4, hw4⟩ : ∃ w4, w3.alloc (.cells #[.int .i64 1, .string ⟨#[97]⟩, .string ⟨#[120, 121]⟩] 32) = w4 := ⟨_, rfl⟩
  obtain ⟨b3, hb3⟩ : ∃ b3, w3.heap.size = b3 := ⟨_, rfl⟩
  have hblk : w4.heap[b3]? = some (.cells #[.int .i64 1, .string ⟨#[97]⟩, .string ⟨#[120, 121]⟩] 32 (0, 0)) := by rw [← hw4, ← hb3]; exact heap_alloc_new w3 _
  have hb24 : Below w2.heap.size w2 w4 := by rw [← hw4]; exact later HB3.out ((Below.refl _ _).alloc (Nat.le_refl _) _)
  rw [hw4, hb3]
  have HK := Lib.hid hblk
  have HB4 := Lib.hid hb24
  clear hw4 hb3 hblk hb24 HB3
  refine (between_any _ 3 3 S0 2 5 _ (HS.out.later HB4.out) (by omega)).mono ?_
  rintro e w5 ⟨v1, rfl, hown1, hb5⟩
  obtain ⟨A1, c1, rfl, -, -⟩ := Comes.of_own (okA := fun _ => True) hown1 (fun _ => rfl) (by decide) (fun _ _ => trivial)
  rw [show (S0.filter (insideB 2 5)).length = 2 from by decide]
  have HB5 := Lib.hid hb5
  clear hown1 hb5
  go_wp2_with fail
  refine (without_any _ 3 3 S0 2 5 _ (HS.out.later (later HB4.out HB5.out)) (by omega)).mono ?_
  rintro e w6 ⟨v2, rfl, hown2, hb6⟩
  have hown3 : w6.ownsRow w5.heap.size 52 2 v2 1 (([(1, 0)] : List Sam).flatMap encS) := hown2
  obtain ⟨A2, c2, rfl, -, hcom⟩ := Comes.of_own (okA := fun _ => True) hown3 (fun _ => rfl) (by decide) (fun _ _ => trivial)
  obtain ⟨b4, o4, rfl, hcs4⟩ := S_cells hcom.lies (show 0 < 1 by omega)
  have hone : 1 ≤ c2 := hcom.le
  have hcap2 : c2 ≤ 9223372036854775807 := hcom.cap
  have HX : Hid (∀ W, Below w6.heap.size w6 W → Comes W 2 encL okL (some ⟨b1, 0, none⟩) 1 1 L0 ∧ Comes W 2 encS okS (some ⟨b2, 0, none⟩) 3 3 S0 ∧ W.heap[b3]? = some (.cells #[.int .i64 1, .string ⟨#[97]⟩, .string ⟨#[120, 121]⟩] 32 (0, 0)) ∧ W.cell? ⟨b4, o4, none⟩ = some (.int .i64 1) ∧ Below w.heap.size w W) := by
    intro W hW
    have hk5 := (HB5.out.block _ (Array.getElem?_eq_some_iff.1 HK.out).1).trans HK.out
    have hk6 := (hb6.block _ (Array.getElem?_eq_some_iff.1 hk5).1).trans hk5
    have hb26 := later HB4.out (later HB5.out hb6)
    refine ⟨(HL.out.later hb26).later hW, (HS.out.later hb26).later hW, (hW.block _ (Array.getElem?_eq_some_iff.1 hk6).1).trans hk6, ?_, later HB.out (later hb26 hW)⟩
    have := (hcs4 W hW).1
    rw [Nat.zero_mul, Nat.add_zero] at this
    exact this
  clear hown2 hown3 hb6 hcom hcs4 HK HB5 HB4 HB HL HS
  go_wp2_with fail
  refine (fits_any (0, ⟨#[98]⟩, ⟨#[]⟩) ⟨by decide, by decide, by decide, by decide⟩ _ 1 1 L0 _ (HX.out _ (Below.refl _ _)).1 (by omega)).mono ?_
  rintro e w7 ⟨rfl, hb7⟩
  rw [wf1]
  have H7 := Lib.hid hb7
  clear hb7
  go_wp2_with fail
  refine (fits_any (2, ⟨#[97]⟩, ⟨#[120]⟩) ⟨by decide, by decide, by decide, by decide⟩ _ 1 1 L0 _ (HX.out _ H7.out).1 (by omega)).mono ?_
  rintro e w8 ⟨rfl, hb8⟩
  rw [wf2]
  have H8 := Lib.hid (later H7.out hb8)
  have hk8 := (HX.out _ (later H7.out hb8)).2.2.1
  have m0 : w8.cell? ⟨b3, 0, none⟩ = some (.int .i64 1) := by rw [cell_of_row w8 _ _ _ _ _ hk8]; rfl
  have m1 : w8.cell? ⟨b3, 1, none⟩ = some (.string ⟨#[97]⟩) := by rw [cell_of_row w8 _ _ _ _ _ hk8]; rfl
  have m2 : w8.cell? ⟨b3, 2, none⟩ = some (.string ⟨#[120, 121]⟩) := by rw [cell_of_row w8 _ _ _ _ _ hk8]; rfl
  clear hb8 hk8
  go_wp2_with fail
  refine (fits_any (1, ⟨#[97]⟩, ⟨#[120, 121]⟩) ⟨by decide, by decide, by decide, by decide⟩ _ 1 1 L0 _ (HX.out _ H8.out).1 (by omega)).mono ?_
  rintro e w9 ⟨rfl, hb9⟩
  rw [wf3]
  have H9 := Lib.hid (later H8.out hb9)
  clear hb9 m0 m1 m2
  go_wp2_with fail
  refine (all_any none 0 0 [] _ 1 1 L0 _ (Comes.nil _ _ _ _) (HX.out _ H9.out).1 (by omega) (by omega)).mono ?_
  rintro e w10 ⟨rfl, hb10⟩
  rw [show allB [] L0 = true from rfl]
  have H10 := Lib.hid (later H9.out hb10)
  clear hb10
  go_wp2_with fail
  refine (mcheck_any none 0 0 [] _ (Comes.nil _ _ _ _)).mono ?_
  rintro e w11 ⟨rfl, hb11⟩
  rw [show errN (checkMB []) 1 = 0 from rfl]
  have H11 := Lib.hid (later H10.out hb11)
  clear hb11
  go_wp2_with fail
  refine (mcheck_any (some ⟨w11.heap.size, 0, none⟩) 1 1 [(4, ⟨#[97]⟩, ⟨#[]⟩)] _ (Comes.block (heap_alloc_new w11 _) rfl (fun _ => rfl) rfl (Nat.le_refl _) (by decide) (fun x hx => by
    obtain rfl := List.mem_singleton.1 hx
    exact ⟨by decide, by decide, by decide, by decide⟩))).mono ?_
  rintro e w12 ⟨rfl, hb12⟩
  rw [wc1, errN_false]
  have H12 := Lib.hid (show Below w6.heap.size w6 w12 from (H11.out.alloc H11.out.size _).trans (hb12.mono (by have := H11.out.size; simp; omega)))
  clear hb12
  go_wp2_with fail
  obtain ⟨w13, hw13⟩ : ∃ w13, w12.alloc (.cells #[.slice (some ⟨b1, 0, none⟩) 1 1] 28) = w13 := ⟨_, rfl⟩
  have hb13 : Below w6.heap.size w6 w13 := by rw [← hw13]; exact H12.out.alloc H12.out.size _
  have hH : Comes w13 1 encH (fun _ => True) (some ⟨w12.heap.size, 0, none⟩) 1 1 [((some ⟨b1, 0, none⟩, 1, 1), L0)] := by
    rw [← hw13]; exact Comes.block (heap_alloc_new w12 _) rfl (fun _ => rfl) rfl (Nat.le_refl _) (by decide) (fun _ _ => trivial)
  rw [hw13]
  refine (select_any none 0 0 [] _ 1 1 [((some ⟨b1, 0, none⟩, 1, 1), L0)] w13 (Comes.nil _ _ _ _) hH (fun x hx => by
    obtain rfl := List.mem_singleton.1 hx
    exact ⟨(HX.out _ hb13).1, (by decide : 1 ≤ 1000000)⟩) (by omega) (by omega)).mono ?_
  rintro e w14 ⟨v3, rfl, hown3, hb14⟩
  obtain ⟨A3, c3, rfl, -, -⟩ := Comes.of_own (okA := fun _ => True) hown3 (fun _ => rfl) (by decide) (fun _ _ => trivial)
  rw [show (places [] [((some ⟨b1, 0, none⟩, 1, 1), L0)]).length = 1 from rfl]
  have H14 := Lib.hid (later hb13 hb14)
  have hc4 := (HX.out _ (later hb13 hb14)).2.2.2.1
  clear hown3 hb13 hb14 hH hw13
  go_wp2_with fail
  refine (sorted_any _ 3 3 S0 _ (HX.out _ H14.out).2.1).mono ?_
  rintro e w15 ⟨rfl, hb15⟩
  rw [ws1]
  have H15 := Lib.hid (later H14.out hb15)
  clear hb15 hc4
  go_wp2_with fail
  refine (sorted_any (some ⟨w15.heap.size, 0, none⟩) 2 2 [(1, 0), (1, 0)] _ (Comes.block (heap_alloc_new w15 _) rfl (fun _ => rfl) rfl (Nat.le_refl _) (by decide) (fun x hx => by
    have : x = (1, 0) := by simpa using hx
    subst this
    exact ⟨by decide, by decide, by decide, by decide⟩))).mono ?_
  rintro e w16 ⟨rfl, hb16⟩
  rw [ws2]
  have H16 := Lib.hid (show Below w6.heap.size w6 w16 from (H15.out.alloc H15.out.size _).trans (hb16.mono (by have := H15.out.size; simp; omega)))
  clear hb16
  go_wp2_with fail
  go_ret
  exact ⟨rfl, (HX.out _ H16.out).2.2.2.2⟩
end Go.Proofs.Ytdacefmcnjoboaa.LabW
