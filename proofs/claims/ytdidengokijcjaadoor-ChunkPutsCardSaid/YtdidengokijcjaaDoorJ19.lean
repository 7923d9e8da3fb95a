/-
  alluviumref04.Put, at; alluviumlaw04.of: THE WALKS.
  alluviumref04.Get: THE WALK.
  alluviumref04.Get, behind the first time: THE WALK. (Printed by wip/gen/strefh.py.)
  alluviumref04.Bits, All, Read: THE WALKS.
-/
import Derived.Test.YtdidengokijcjaaDoorJ09
import Derived.RegionTactic
import Derived.ChangeAlike
import Derived.BigRegion
import Derived.Deep.RegionHeld3
/-
  alluviumref04.Put, at; alluviumlaw04.of: THE WALKS.
-/
namespace Go.Proofs.YtdidengokijcjaaDoor.StW
open Go.RowKit Go.Shelf BitsM BitsW StM
def RtObj (s : St) : Obj := .cells #[.int .i64 s.1, .int .i64 s.2.1, .int .i64 s.2.2] 76 (0, 0)
theorem info_rt : (Tryd.prog.info? 76).map (·.size) = some 3 := by kernel_rfl
def RtAt (W : World) (g : Nat) (s : St) : Prop := W.heap[g]? = some (RtObj s)
theorem RtAt.c0 {W : World} {g : Nat} {s : St} (h : RtAt W g s) : W.cell? ⟨g, 0, none⟩ = some (.int .i64 s.1) := by rw [cell_of_row W _ _ _ _ _ h]; rfl
theorem RtAt.c1 {W : World} {g : Nat} {s : St} (h : RtAt W g s) : W.cell? ⟨g, 1, none⟩ = some (.int .i64 s.2.1) := by rw [cell_of_row W _ _ _ _ _ h]; rfl
theorem RtAt.c2 {W : World} {g : Nat} {s : St} (h : RtAt W g s) : W.cell? ⟨g, 2, none⟩ = some (.int .i64 s.2.2) := by rw [cell_of_row W _ _ _ _ _ h]; rfl
theorem RtAt.later {W W' : World} {g : Nat} {s : St} (h : RtAt W g s) (hb : Below W.heap.size W W') : RtAt W' g s := (hb.block _ (Array.getElem?_eq_some_iff.1 h).1).trans h
theorem bstr_z : (⟨#[48]⟩ : ByteArray) = bstr [false] := rfl
theorem bstr_oz : (⟨#[49, 48]⟩ : ByteArray) = bstr [true, false] := rfl
theorem bstr_ooz : (⟨#[49, 49, 48]⟩ : ByteArray) = bstr [true, true, false] := rfl
theorem bstr_oooz : (⟨#[49, 49, 49, 48]⟩ : ByteArray) = bstr [true, true, true, false] := rfl
theorem bstr_oooo : (⟨#[49, 49, 49, 49]⟩ : ByteArray) = bstr [true, true, true, true] := rfl
theorem u64_wrap64 (x : Int) : u64 (wrap64 x) = u64 x := by unfold u64 wrap64; omega
set_option maxRecDepth 20000 in
set_option maxHeartbeats 2000000 in
theorem rput_first (s : St) (t : Int) (w : World) (h0 : s.1 = 0) :
    Calls Tryd.prog 44 #[.agg #[.int .i64 s.1, .int .i64 s.2.1, .int .i64 s.2.2], .int .i64 t] w fun e w' => e = .returned (.tuple #[.string (bstr (putS s t)), .agg #[.int .i64 (aftS s t).1, .int .i64 (aftS s t).2.1, .int .i64 (aftS s t).2.2]]) ∧ Below w.heap.size w w' := by
  obtain ⟨N, T, D⟩ := s
  obtain rfl : N = 0 := h0
  have hv := wrapu_eq t
  have e1 : putS (0, T, D) t = msb (u64 t) 64 := rfl
  have e2 : aftS (0, T, D) t = (1, t, 0) := rfl
  rw [e1, e2]
  have hu := u64_lt t
  obtain ⟨U, hU⟩ : ∃ U, u64 t = U := ⟨_, rfl⟩
  rw [hU] at hv hu ⊢
  clear e1 e2 hU
  have HM := Lib.hid (rbits_any U 64)
  rw [show within 64 = 64 from rfl] at HM
  obtain ⟨S, hS⟩ : ∃ S, bstr (msb U 64) = S := ⟨_, rfl⟩
  rw [hS] at HM ⊢
  clear hS
  go_enter Tryd.func44, Tryd.ntmps44
  go_wp2_with fail
  refine (HM.out _ hu (by omega)).mono ?_
  rintro e w' ⟨rfl, rfl⟩
  go_wp2
  exact bodyPost_ret (v := .tuple #[.string S, .agg #[.int .i64 1, .int .i64 t, .int .i64 0]]) (by simp [results, Tryd.results44, go_sem]) rfl ⟨rfl, ((Below.refl _ _).alloc (Nat.le_refl _) _).alloc (by simp) _⟩
set_option maxRecDepth 20000 in
set_option maxHeartbeats 2000000 in
theorem rput_0 (s : St) (t : Int) (w : World) (h0 : ¬ s.1 = 0) (hk : cls (chg s t) = 0) :
    Calls Tryd.prog 44 #[.agg #[.int .i64 s.1, .int .i64 s.2.1, .int .i64 s.2.2], .int .i64 t] w fun e w' => e = .returned (.tuple #[.string (bstr (putS s t)), .agg #[.int .i64 (aftS s t).1, .int .i64 (aftS s t).2.1, .int .i64 (aftS s t).2.2]]) ∧ Below w.heap.size w w' := by
  have e1 : putS s t = [false] ++ msb (u64 (chg s t - lowC 0)) 0 := by unfold putS codeC valC; rw [if_neg h0, hk]; rfl
  have e2 : aftS s t = (IntKind.i64.wrap (s.1 + 1), t, wrap64 (t - s.2.1)) := by unfold aftS; rw [if_neg h0, wrap_eq]
  have hin := cls_in (chg s t)
  have hout := cls_out (chg s t)
  have hci : okI (chg s t) := okI_wrap _
  rw [e1, e2]
  have hcc : wrap64 (wrap64 (t - s.2.1) - s.2.2) = chg s t := rfl
  have hb0 : (s.1 == 0) = false := by simpa using h0
  obtain ⟨N, T, D⟩ := s
  simp only [] at hb0 hcc ⊢
  generalize chg (N, T, D) t = c at *
  rw [hk] at hin hout
  unfold okI at hci
  have hc0 : c = 0 := by
    rcases hin with h | ⟨h1, h2⟩
    · cases h
    · have h1 : (0 : Int) ≤ c := h1
      have h2 : c ≤ (0 : Int) := h2
      omega
  have hceq : (c == 0) = true := by simpa using hc0
  clear hin hout hk h0 e1 e2
  have e9 : bstr ([false] ++ msb (u64 (c - lowC 0)) 0) = (⟨#[48]⟩ : ByteArray) := rfl
  rw [e9]
  clear e9
  obtain ⟨y, hy⟩ : ∃ y, wrap64 (t - T) = y := ⟨_, rfl⟩
  rw [hy] at hcc ⊢
  obtain ⟨wA, hwA⟩ : ∃ wA, (w.alloc (RtObj (N, T, D))).alloc (RtObj (0, 0, 0)) = wA := ⟨_, rfl⟩
  have hbA : Below w.heap.size w wA := by rw [← hwA]; exact ((Below.refl _ _).alloc (Nat.le_refl _) _).alloc (by simp) _
  have hst : RtAt wA w.heap.size (N, T, D) := by rw [← hwA]; exact (heap_past _ _ (by simp)).trans (heap_alloc_new w _)
  have hres : RtAt wA (w.heap.size + 1) (0, 0, 0) := by rw [← hwA]; exact heap_at _ _ (by simp)
  have c0 := hst.c0
  have c1 := hst.c1
  have c2 := hst.c2
  have HB := Lib.hid hbA
  have HR := Lib.hid hres
  clear hst hbA hres
  change (w.alloc (.cells #[.int .i64 N, .int .i64 T, .int .i64 D] 76 (0, 0))).alloc (.cells #[.int .i64 0, .int .i64 0, .int .i64 0] 76 (0, 0)) = wA at hwA
  go_enter Tryd.func44, Tryd.ntmps44
  go_wp2_with fail
  try rw [hwA]
  go_still_tail 8, (by kernel_rfl)
  have hresd : RtAt wA.drew (w.heap.size + 1) (0, 0, 0) := HR.out
  have hbdr : Below w.heap.size w wA.drew := HB.out.trans ⟨rfl, rfl, rfl, Nat.le_refl _, fun _ _ => rfl⟩
  have hbd : Below w.heap.size w (wA.drew.setRow (w.heap.size + 1) #[.int .i64 (IntKind.i64.wrap (N + 1)), .int .i64 t, .int .i64 y]) := below_setRow hbdr (Nat.le_succ _) _
  have HBD := Lib.hid hbd
  clear hbd hbdr
  go_wp2_with (refine wpList_store_row rfl 76 _ _ rfl (w.heap.size + 1) #[.int .i64 (IntKind.i64.wrap (N + 1)), .int .i64 t, .int .i64 y] rfl rfl 76 _ hresd info_rt rfl (by simp [Value.oneCell']) ?_)
  have hr2 : RtAt (wA.drew.setRow (w.heap.size + 1) #[.int .i64 (IntKind.i64.wrap (N + 1)), .int .i64 t, .int .i64 y]) (w.heap.size + 1) (IntKind.i64.wrap (N + 1), t, y) := setRow_heap _ _ _ _ _ _ hresd
  have r0 := hr2.c0
  have r1 := hr2.c1
  have r2 := hr2.c2
  simp only [] at r0 r1 r2
  refine bodyPost_ret (v := .tuple #[.string ⟨#[48]⟩, .agg #[.int .i64 (IntKind.i64.wrap (N + 1)), .int .i64 t, .int .i64 y]]) ?_ rfl ⟨rfl, HBD.out⟩
  simp [results, Tryd.results44, go_sem, r0, r1, r2]
set_option maxRecDepth 20000 in
set_option maxHeartbeats 2000000 in
theorem rput_1 (s : St) (t : Int) (w : World) (h0 : ¬ s.1 = 0) (hk : cls (chg s t) = 1) :
    Calls Tryd.prog 44 #[.agg #[.int .i64 s.1, .int .i64 s.2.1, .int .i64 s.2.2], .int .i64 t] w fun e w' => e = .returned (.tuple #[.string (bstr (putS s t)), .agg #[.int .i64 (aftS s t).1, .int .i64 (aftS s t).2.1, .int .i64 (aftS s t).2.2]]) ∧ Below w.heap.size w w' := by
  have e1 : putS s t = [true, false] ++ msb (u64 (chg s t - lowC 1)) 7 := by unfold putS codeC valC; rw [if_neg h0, hk]; rfl
  have e2 : aftS s t = (IntKind.i64.wrap (s.1 + 1), t, wrap64 (t - s.2.1)) := by unfold aftS; rw [if_neg h0, wrap_eq]
  have hin := cls_in (chg s t)
  have hout := cls_out (chg s t)
  have hci : okI (chg s t) := okI_wrap _
  rw [e1, e2]
  have hcc : wrap64 (wrap64 (t - s.2.1) - s.2.2) = chg s t := rfl
  have hb0 : (s.1 == 0) = false := by simpa using h0
  obtain ⟨N, T, D⟩ := s
  simp only [] at hb0 hcc ⊢
  generalize chg (N, T, D) t = c at *
  rw [hk] at hin hout
  unfold okI at hci
  have q0 : c < 0 ∨ 0 < c := hout 0 (by omega)
  have hceq : (c == 0) = false := by simp; omega
  obtain ⟨r1, r2⟩ : (-63 : Int) ≤ c ∧ c ≤ 64 := by
    rcases hin with h | ⟨h1, h2⟩
    · cases h
    · exact ⟨h1, h2⟩
  clear hin hout hk h0 e1 e2
  rw [show c - lowC 1 = c + 63 by (show c - (-63) = _; omega)]
  have hv := wrapu_eq (c + 63)
  have hu := u64_lt (c + 63)
  obtain ⟨U, hU⟩ : ∃ U, u64 (c + 63) = U := ⟨_, rfl⟩
  rw [hU] at hv hu ⊢
  clear hU
  have HM := Lib.hid (rbits_any U 7)
  rw [show within 7 = 7 from rfl] at HM
  rw [bstr_append, ← bstr_oz]
  have hsz : (bstr (msb U 7)).size = 7 := by rw [bstr_size, msb_length]
  obtain ⟨S, hS⟩ : ∃ S, bstr (msb U 7) = S := ⟨_, rfl⟩
  rw [hS] at HM hsz ⊢
  clear hS
  obtain ⟨y, hy⟩ : ∃ y, wrap64 (t - T) = y := ⟨_, rfl⟩
  rw [hy] at hcc ⊢
  obtain ⟨wA, hwA⟩ : ∃ wA, (w.alloc (RtObj (N, T, D))).alloc (RtObj (0, 0, 0)) = wA := ⟨_, rfl⟩
  have hbA : Below w.heap.size w wA := by rw [← hwA]; exact ((Below.refl _ _).alloc (Nat.le_refl _) _).alloc (by simp) _
  have hst : RtAt wA w.heap.size (N, T, D) := by rw [← hwA]; exact (heap_past _ _ (by simp)).trans (heap_alloc_new w _)
  have hres : RtAt wA (w.heap.size + 1) (0, 0, 0) := by rw [← hwA]; exact heap_at _ _ (by simp)
  have c0 := hst.c0
  have c1 := hst.c1
  have c2 := hst.c2
  have HB := Lib.hid hbA
  have HR := Lib.hid hres
  clear hst hbA hres
  change (w.alloc (.cells #[.int .i64 N, .int .i64 T, .int .i64 D] 76 (0, 0))).alloc (.cells #[.int .i64 0, .int .i64 0, .int .i64 0] 76 (0, 0)) = wA at hwA
  go_enter Tryd.func44, Tryd.ntmps44
  go_wp2_with fail
  refine (HM.out _ hu (by omega)).mono ?_
  rintro e w' ⟨rfl, rfl⟩
  go_wp2_with fail
  try rw [hwA]
  go_still_tail 8, (by kernel_rfl)
  have hresd : RtAt wA.drew (w.heap.size + 1) (0, 0, 0) := HR.out
  have hbdr : Below w.heap.size w wA.drew := HB.out.trans ⟨rfl, rfl, rfl, Nat.le_refl _, fun _ _ => rfl⟩
  have hbd : Below w.heap.size w (wA.drew.setRow (w.heap.size + 1) #[.int .i64 (IntKind.i64.wrap (N + 1)), .int .i64 t, .int .i64 y]) := below_setRow hbdr (Nat.le_succ _) _
  have HBD := Lib.hid hbd
  clear hbd hbdr
  go_wp2_with (refine wpList_store_row rfl 76 _ _ rfl (w.heap.size + 1) #[.int .i64 (IntKind.i64.wrap (N + 1)), .int .i64 t, .int .i64 y] rfl rfl 76 _ hresd info_rt rfl (by simp [Value.oneCell']) ?_)
  have hr2 : RtAt (wA.drew.setRow (w.heap.size + 1) #[.int .i64 (IntKind.i64.wrap (N + 1)), .int .i64 t, .int .i64 y]) (w.heap.size + 1) (IntKind.i64.wrap (N + 1), t, y) := setRow_heap _ _ _ _ _ _ hresd
  have r0 := hr2.c0
  have r1 := hr2.c1
  have r2 := hr2.c2
  simp only [] at r0 r1 r2
  refine bodyPost_ret (v := .tuple #[.string (⟨#[49, 48]⟩ ++ S), .agg #[.int .i64 (IntKind.i64.wrap (N + 1)), .int .i64 t, .int .i64 y]]) ?_ rfl ⟨rfl, HBD.out⟩
  simp [results, Tryd.results44, go_sem, r0, r1, r2]
set_option maxRecDepth 20000 in
set_option maxHeartbeats 2000000 in
theorem rput_2 (s : St) (t : Int) (w : World) (h0 : ¬ s.1 = 0) (hk : cls (chg s t) = 2) :
    Calls Tryd.prog 44 #[.agg #[.int .i64 s.1, .int .i64 s.2.1, .int .i64 s.2.2], .int .i64 t] w fun e w' => e = .returned (.tuple #[.string (bstr (putS s t)), .agg #[.int .i64 (aftS s t).1, .int .i64 (aftS s t).2.1, .int .i64 (aftS s t).2.2]]) ∧ Below w.heap.size w w' := by
  have e1 : putS s t = [true, true, false] ++ msb (u64 (chg s t - lowC 2)) 9 := by unfold putS codeC valC; rw [if_neg h0, hk]; rfl
  have e2 : aftS s t = (IntKind.i64.wrap (s.1 + 1), t, wrap64 (t - s.2.1)) := by unfold aftS; rw [if_neg h0, wrap_eq]
  have hin := cls_in (chg s t)
  have hout := cls_out (chg s t)
  have hci : okI (chg s t) := okI_wrap _
  rw [e1, e2]
  have hcc : wrap64 (wrap64 (t - s.2.1) - s.2.2) = chg s t := rfl
  have hb0 : (s.1 == 0) = false := by simpa using h0
  obtain ⟨N, T, D⟩ := s
  simp only [] at hb0 hcc ⊢
  generalize chg (N, T, D) t = c at *
  rw [hk] at hin hout
  unfold okI at hci
  have q0 : c < 0 ∨ 0 < c := hout 0 (by omega)
  have hceq : (c == 0) = false := by simp; omega
  have q1 : c < -63 ∨ 64 < c := hout 1 (by omega)
  obtain ⟨r1, r2⟩ : (-255 : Int) ≤ c ∧ c ≤ 256 := by
    rcases hin with h | ⟨h1, h2⟩
    · cases h
    · exact ⟨h1, h2⟩
  clear hin hout hk h0 e1 e2
  rw [show c - lowC 2 = c + 255 by (show c - (-255) = _; omega)]
  have hv := wrapu_eq (c + 255)
  have hu := u64_lt (c + 255)
  obtain ⟨U, hU⟩ : ∃ U, u64 (c + 255) = U := ⟨_, rfl⟩
  rw [hU] at hv hu ⊢
  clear hU
  have HM := Lib.hid (rbits_any U 9)
  rw [show within 9 = 9 from rfl] at HM
  rw [bstr_append, ← bstr_ooz]
  have hsz : (bstr (msb U 9)).size = 9 := by rw [bstr_size, msb_length]
  obtain ⟨S, hS⟩ : ∃ S, bstr (msb U 9) = S := ⟨_, rfl⟩
  rw [hS] at HM hsz ⊢
  clear hS
  obtain ⟨y, hy⟩ : ∃ y, wrap64 (t - T) = y := ⟨_, rfl⟩
  rw [hy] at hcc ⊢
  obtain ⟨wA, hwA⟩ : ∃ wA, (w.alloc (RtObj (N, T, D))).alloc (RtObj (0, 0, 0)) = wA := ⟨_, rfl⟩
  have hbA : Below w.heap.size w wA := by rw [← hwA]; exact ((Below.refl _ _).alloc (Nat.le_refl _) _).alloc (by simp) _
  have hst : RtAt wA w.heap.size (N, T, D) := by rw [← hwA]; exact (heap_past _ _ (by simp)).trans (heap_alloc_new w _)
  have hres : RtAt wA (w.heap.size + 1) (0, 0, 0) := by rw [← hwA]; exact heap_at _ _ (by simp)
  have c0 := hst.c0
  have c1 := hst.c1
  have c2 := hst.c2
  have HB := Lib.hid hbA
  have HR := Lib.hid hres
  clear hst hbA hres
  change (w.alloc (.cells #[.int .i64 N, .int .i64 T, .int .i64 D] 76 (0, 0))).alloc (.cells #[.int .i64 0, .int .i64 0, .int .i64 0] 76 (0, 0)) = wA at hwA
  go_enter Tryd.func44, Tryd.ntmps44
  rcases q1 with q1 | q1
  all_goals first | (exfalso; omega) | skip
  all_goals
    go_wp2_with fail
    refine (HM.out _ hu (by omega)).mono ?_
    rintro e w' ⟨rfl, rfl⟩
    go_wp2_with fail
    try rw [hwA]
    go_still_tail 8, (by kernel_rfl)
    have hresd : RtAt wA.drew (w.heap.size + 1) (0, 0, 0) := HR.out
    have hbdr : Below w.heap.size w wA.drew := HB.out.trans ⟨rfl, rfl, rfl, Nat.le_refl _, fun _ _ => rfl⟩
    have hbd : Below w.heap.size w (wA.drew.setRow (w.heap.size + 1) #[.int .i64 (IntKind.i64.wrap (N + 1)), .int .i64 t, .int .i64 y]) := below_setRow hbdr (Nat.le_succ _) _
    have HBD := Lib.hid hbd
    clear hbd hbdr
    go_wp2_with (refine wpList_store_row rfl 76 _ _ rfl (w.heap.size + 1) #[.int .i64 (IntKind.i64.wrap (N + 1)), .int .i64 t, .int .i64 y] rfl rfl 76 _ hresd info_rt rfl (by simp [Value.oneCell']) ?_)
    have hr2 : RtAt (wA.drew.setRow (w.heap.size + 1) #[.int .i64 (IntKind.i64.wrap (N + 1)), .int .i64 t, .int .i64 y]) (w.heap.size + 1) (IntKind.i64.wrap (N + 1), t, y) := setRow_heap _ _ _ _ _ _ hresd
    have r0 := hr2.c0
    have r1 := hr2.c1
    have r2 := hr2.c2
    simp only [] at r0 r1 r2
    refine bodyPost_ret (v := .tuple #[.string (⟨#[49, 49, 48]⟩ ++ S), .agg #[.int .i64 (IntKind.i64.wrap (N + 1)), .int .i64 t, .int .i64 y]]) ?_ rfl ⟨rfl, HBD.out⟩
    simp [results, Tryd.results44, go_sem, r0, r1, r2]
set_option maxRecDepth 20000 in
set_option maxHeartbeats 2000000 in
theorem rput_3 (s : St) (t : Int) (w : World) (h0 : ¬ s.1 = 0) (hk : cls (chg s t) = 3) :
    Calls Tryd.prog 44 #[.agg #[.int .i64 s.1, .int .i64 s.2.1, .int .i64 s.2.2], .int .i64 t] w fun e w' => e = .returned (.tuple #[.string (bstr (putS s t)), .agg #[.int .i64 (aftS s t).1, .int .i64 (aftS s t).2.1, .int .i64 (aftS s t).2.2]]) ∧ Below w.heap.size w w' := by
  have e1 : putS s t = [true, true, true, false] ++ msb (u64 (chg s t - lowC 3)) 12 := by unfold putS codeC valC; rw [if_neg h0, hk]; rfl
  have e2 : aftS s t = (IntKind.i64.wrap (s.1 + 1), t, wrap64 (t - s.2.1)) := by unfold aftS; rw [if_neg h0, wrap_eq]
  have hin := cls_in (chg s t)
  have hout := cls_out (chg s t)
  have hci : okI (chg s t) := okI_wrap _
  rw [e1, e2]
  have hcc : wrap64 (wrap64 (t - s.2.1) - s.2.2) = chg s t := rfl
  have hb0 : (s.1 == 0) = false := by simpa using h0
  obtain ⟨N, T, D⟩ := s
  simp only [] at hb0 hcc ⊢
  generalize chg (N, T, D) t = c at *
  rw [hk] at hin hout
  unfold okI at hci
  have q0 : c < 0 ∨ 0 < c := hout 0 (by omega)
  have hceq : (c == 0) = false := by simp; omega
  have q1 : c < -63 ∨ 64 < c := hout 1 (by omega)
  have q2 : c < -255 ∨ 256 < c := hout 2 (by omega)
  obtain ⟨r1, r2⟩ : (-2047 : Int) ≤ c ∧ c ≤ 2048 := by
    rcases hin with h | ⟨h1, h2⟩
    · cases h
    · exact ⟨h1, h2⟩
  clear hin hout hk h0 e1 e2
  rw [show c - lowC 3 = c + 2047 by (show c - (-2047) = _; omega)]
  have hv := wrapu_eq (c + 2047)
  have hu := u64_lt (c + 2047)
  obtain ⟨U, hU⟩ : ∃ U, u64 (c + 2047) = U := ⟨_, rfl⟩
  rw [hU] at hv hu ⊢
  clear hU
  have HM := Lib.hid (rbits_any U 12)
  rw [show within 12 = 12 from rfl] at HM
  rw [bstr_append, ← bstr_oooz]
  have hsz : (bstr (msb U 12)).size = 12 := by rw [bstr_size, msb_length]
  obtain ⟨S, hS⟩ : ∃ S, bstr (msb U 12) = S := ⟨_, rfl⟩
  rw [hS] at HM hsz ⊢
  clear hS
  obtain ⟨y, hy⟩ : ∃ y, wrap64 (t - T) = y := ⟨_, rfl⟩
  rw [hy] at hcc ⊢
  obtain ⟨wA, hwA⟩ : ∃ wA, (w.alloc (RtObj (N, T, D))).alloc (RtObj (0, 0, 0)) = wA := ⟨_, rfl⟩
  have hbA : Below w.heap.size w wA := by rw [← hwA]; exact ((Below.refl _ _).alloc (Nat.le_refl _) _).alloc (by simp) _
  have hst : RtAt wA w.heap.size (N, T, D) := by rw [← hwA]; exact (heap_past _ _ (by simp)).trans (heap_alloc_new w _)
  have hres : RtAt wA (w.heap.size + 1) (0, 0, 0) := by rw [← hwA]; exact heap_at _ _ (by simp)
  have c0 := hst.c0
  have c1 := hst.c1
  have c2 := hst.c2
  have HB := Lib.hid hbA
  have HR := Lib.hid hres
  clear hst hbA hres
  change (w.alloc (.cells #[.int .i64 N, .int .i64 T, .int .i64 D] 76 (0, 0))).alloc (.cells #[.int .i64 0, .int .i64 0, .int .i64 0] 76 (0, 0)) = wA at hwA
  go_enter Tryd.func44, Tryd.ntmps44
  rcases q1 with q1 | q1 <;> rcases q2 with q2 | q2
  all_goals first | (exfalso; omega) | skip
  all_goals
    go_wp2_with fail
    refine (HM.out _ hu (by omega)).mono ?_
    rintro e w' ⟨rfl, rfl⟩
    go_wp2_with fail
    try rw [hwA]
    go_still_tail 8, (by kernel_rfl)
    have hresd : RtAt wA.drew (w.heap.size + 1) (0, 0, 0) := HR.out
    have hbdr : Below w.heap.size w wA.drew := HB.out.trans ⟨rfl, rfl, rfl, Nat.le_refl _, fun _ _ => rfl⟩
    have hbd : Below w.heap.size w (wA.drew.setRow (w.heap.size + 1) #[.int .i64 (IntKind.i64.wrap (N + 1)), .int .i64 t, .int .i64 y]) := below_setRow hbdr (Nat.le_succ _) _
    have HBD := Lib.hid hbd
    clear hbd hbdr
    go_wp2_with (refine wpList_store_row rfl 76 _ _ rfl (w.heap.size + 1) #[.int .i64 (IntKind.i64.wrap (N + 1)), .int .i64 t, .int .i64 y] rfl rfl 76 _ hresd info_rt rfl (by simp [Value.oneCell']) ?_)
    have hr2 : RtAt (wA.drew.setRow (w.heap.size + 1) #[.int .i64 (IntKind.i64.wrap (N + 1)), .int .i64 t, .int .i64 y]) (w.heap.size + 1) (IntKind.i64.wrap (N + 1), t, y) := setRow_heap _ _ _ _ _ _ hresd
    have r0 := hr2.c0
    have r1 := hr2.c1
    have r2 := hr2.c2
    simp only [] at r0 r1 r2
    refine bodyPost_ret (v := .tuple #[.string (⟨#[49, 49, 49, 48]⟩ ++ S), .agg #[.int .i64 (IntKind.i64.wrap (N + 1)), .int .i64 t, .int .i64 y]]) ?_ rfl ⟨rfl, HBD.out⟩
    simp [results, Tryd.results44, go_sem, r0, r1, r2]
set_option maxRecDepth 20000 in
set_option maxHeartbeats 2000000 in
theorem rput_4 (s : St) (t : Int) (w : World) (h0 : ¬ s.1 = 0) (hk : cls (chg s t) = 4) :
    Calls Tryd.prog 44 #[.agg #[.int .i64 s.1, .int .i64 s.2.1, .int .i64 s.2.2], .int .i64 t] w fun e w' => e = .returned (.tuple #[.string (bstr (putS s t)), .agg #[.int .i64 (aftS s t).1, .int .i64 (aftS s t).2.1, .int .i64 (aftS s t).2.2]]) ∧ Below w.heap.size w w' := by
  have e1 : putS s t = [true, true, true, true] ++ msb (u64 (chg s t - lowC 4)) 64 := by unfold putS codeC valC; rw [if_neg h0, hk]; rfl
  have e2 : aftS s t = (IntKind.i64.wrap (s.1 + 1), t, wrap64 (t - s.2.1)) := by unfold aftS; rw [if_neg h0, wrap_eq]
  have hin := cls_in (chg s t)
  have hout := cls_out (chg s t)
  have hci : okI (chg s t) := okI_wrap _
  rw [e1, e2]
  have hcc : wrap64 (wrap64 (t - s.2.1) - s.2.2) = chg s t := rfl
  have hb0 : (s.1 == 0) = false := by simpa using h0
  obtain ⟨N, T, D⟩ := s
  simp only [] at hb0 hcc ⊢
  generalize chg (N, T, D) t = c at *
  rw [hk] at hin hout
  unfold okI at hci
  have q0 : c < 0 ∨ 0 < c := hout 0 (by omega)
  have hceq : (c == 0) = false := by simp; omega
  have q1 : c < -63 ∨ 64 < c := hout 1 (by omega)
  have q2 : c < -255 ∨ 256 < c := hout 2 (by omega)
  have q3 : c < -2047 ∨ 2048 < c := hout 3 (by omega)
  clear hin hout hk h0 e1 e2
  rw [show c - lowC 4 = c by (show c - (0) = _; omega)]
  have hv := wrapu_eq (c)
  have hu := u64_lt (c)
  obtain ⟨U, hU⟩ : ∃ U, u64 (c) = U := ⟨_, rfl⟩
  rw [hU] at hv hu ⊢
  clear hU
  have HM := Lib.hid (rbits_any U 64)
  rw [show within 64 = 64 from rfl] at HM
  rw [bstr_append, ← bstr_oooo]
  have hsz : (bstr (msb U 64)).size = 64 := by rw [bstr_size, msb_length]
  obtain ⟨S, hS⟩ : ∃ S, bstr (msb U 64) = S := ⟨_, rfl⟩
  rw [hS] at HM hsz ⊢
  clear hS
  obtain ⟨y, hy⟩ : ∃ y, wrap64 (t - T) = y := ⟨_, rfl⟩
  rw [hy] at hcc ⊢
  obtain ⟨wA, hwA⟩ : ∃ wA, (w.alloc (RtObj (N, T, D))).alloc (RtObj (0, 0, 0)) = wA := ⟨_, rfl⟩
  have hbA : Below w.heap.size w wA := by rw [← hwA]; exact ((Below.refl _ _).alloc (Nat.le_refl _) _).alloc (by simp) _
  have hst : RtAt wA w.heap.size (N, T, D) := by rw [← hwA]; exact (heap_past _ _ (by simp)).trans (heap_alloc_new w _)
  have hres : RtAt wA (w.heap.size + 1) (0, 0, 0) := by rw [← hwA]; exact heap_at _ _ (by simp)
  have c0 := hst.c0
  have c1 := hst.c1
  have c2 := hst.c2
  have HB := Lib.hid hbA
  have HR := Lib.hid hres
  clear hst hbA hres
  change (w.alloc (.cells #[.int .i64 N, .int .i64 T, .int .i64 D] 76 (0, 0))).alloc (.cells #[.int .i64 0, .int .i64 0, .int .i64 0] 76 (0, 0)) = wA at hwA
  go_enter Tryd.func44, Tryd.ntmps44
  rcases q1 with q1 | q1 <;> rcases q2 with q2 | q2 <;> rcases q3 with q3 | q3
  all_goals first | (exfalso; omega) | skip
  all_goals
    go_wp2_with fail
    refine (HM.out _ hu (by omega)).mono ?_
    rintro e w' ⟨rfl, rfl⟩
    go_wp2_with fail
    try rw [hwA]
    go_still_tail 8, (by kernel_rfl)
    have hresd : RtAt wA.drew (w.heap.size + 1) (0, 0, 0) := HR.out
    have hbdr : Below w.heap.size w wA.drew := HB.out.trans ⟨rfl, rfl, rfl, Nat.le_refl _, fun _ _ => rfl⟩
    have hbd : Below w.heap.size w (wA.drew.setRow (w.heap.size + 1) #[.int .i64 (IntKind.i64.wrap (N + 1)), .int .i64 t, .int .i64 y]) := below_setRow hbdr (Nat.le_succ _) _
    have HBD := Lib.hid hbd
    clear hbd hbdr
    go_wp2_with (refine wpList_store_row rfl 76 _ _ rfl (w.heap.size + 1) #[.int .i64 (IntKind.i64.wrap (N + 1)), .int .i64 t, .int .i64 y] rfl rfl 76 _ hresd info_rt rfl (by simp [Value.oneCell']) ?_)
    have hr2 : RtAt (wA.drew.setRow (w.heap.size + 1) #[.int .i64 (IntKind.i64.wrap (N + 1)), .int .i64 t, .int .i64 y]) (w.heap.size + 1) (IntKind.i64.wrap (N + 1), t, y) := setRow_heap _ _ _ _ _ _ hresd
    have r0 := hr2.c0
    have r1 := hr2.c1
    have r2 := hr2.c2
    simp only [] at r0 r1 r2
    refine bodyPost_ret (v := .tuple #[.string (⟨#[49, 49, 49, 49]⟩ ++ S), .agg #[.int .i64 (IntKind.i64.wrap (N + 1)), .int .i64 t, .int .i64 y]]) ?_ rfl ⟨rfl, HBD.out⟩
    simp [results, Tryd.results44, go_sem, r0, r1, r2]
theorem rput_any (s : St) (t : Int) (w : World) :
    Calls Tryd.prog 44 #[.agg #[.int .i64 s.1, .int .i64 s.2.1, .int .i64 s.2.2], .int .i64 t] w fun e w' => e = .returned (.tuple #[.string (bstr (putS s t)), .agg #[.int .i64 (aftS s t).1, .int .i64 (aftS s t).2.1, .int .i64 (aftS s t).2.2]]) ∧ Below w.heap.size w w' := by
  by_cases h0 : s.1 = 0
  · exact rput_first s t w h0
  · have h4 := cls_le (chg s t)
    have : cls (chg s t) = 0 ∨ cls (chg s t) = 1 ∨ cls (chg s t) = 2 ∨ cls (chg s t) = 3 ∨ cls (chg s t) = 4 := by omega
    rcases this with h | h | h | h | h
    · exact rput_0 s t w h0 h
    · exact rput_1 s t w h0 h
    · exact rput_2 s t w h0 h
    · exact rput_3 s t w h0 h
    · exact rput_4 s t w h0 h
end Go.Proofs.YtdidengokijcjaaDoor.StW
/-
  alluviumref04.Get: THE WALK.
-/
namespace Go.Proofs.YtdidengokijcjaaDoor.StW
set_option linter.unusedVariables false
open Go.RowKit Go.Shelf BitsM BitsW StM
/-- What the document's Get tells. -/
def refG (b : List Bool) (s : St) : St × List Bool × Bool := match getS b s with
  | none => (s, b, false)
  | some (t, k) => (aftS s t, b.drop k, true)
theorem get_none_of {b : List Bool} {s : St} (h0 : ¬ s.1 = 0) (h : candC b = none) : refG b s = (s, b, false) := by
  unfold refG getS; rw [if_neg h0, h]; rfl
theorem get_no_put {b : List Bool} {s : St} {c : Int} (hs : okSt s) (h0 : ¬ s.1 = 0) (h : candC b = some c)
    (hp : ¬ ((putS s (wrap64 (wrap64 (s.2.1 + s.2.2) + c))).length ≤ b.length ∧ b.take (putS s (wrap64 (wrap64 (s.2.1 + s.2.2) + c))).length = putS s (wrap64 (wrap64 (s.2.1 + s.2.2) + c)))) : refG b s = (s, b, false) := by
  have hn : getS b s = none := by
    cases hg : getS b s with
    | none => rfl
    | some x =>
      obtain ⟨t, k⟩ := x
      obtain ⟨h1, h2, h3, h4⟩ := put_get b s t k hs hg
      unfold getS at hg
      rw [if_neg h0, h, Option.bind_some] at hg
      split at hg
      · injection hg with hg
        injection hg with e1 e2
        subst e1
        subst h3
        exact absurd ⟨h4, h2⟩ hp
      · cases hg
  unfold refG; rw [hn]
theorem get_yes_put {b : List Bool} {s : St} {t : Int} (hs : okSt s) (ht : okI t) (h1 : (putS s t).length ≤ b.length) (h2 : b.take (putS s t).length = putS s t) : refG b s = (aftS s t, b.drop (putS s t).length, true) := by
  have e : b = putS s t ++ b.drop (putS s t).length := by
    conv => lhs; rw [← List.take_append_drop (putS s t).length b, h2]
  have hg : getS b s = some (t, (putS s t).length) := by
    rw [e]; exact get_put s t hs ht _
  unfold refG; rw [hg]
theorem set3_row {W : World} {g : Nat} {x y z : Value} {t : TypeId} (a b c : Value) (h : W.heap[g]? = some (.cells #[x, y, z] t (0, 0))) : (((W.setCell ⟨g, 0, none⟩ a).setCell ⟨g, 1, none⟩ b).setCell ⟨g, 2, none⟩ c).heap[g]? = some (.cells #[a, b, c] t (0, 0)) := by
  have h1 : (W.setCell ⟨g, 0, none⟩ a).heap[g]? = some (.cells #[a, y, z] t (0, 0)) := heap_setCell_same W g 0 _ _ _ h
  have h2 : ((W.setCell ⟨g, 0, none⟩ a).setCell ⟨g, 1, none⟩ b).heap[g]? = some (.cells #[a, b, z] t (0, 0)) := heap_setCell_same _ g 1 _ _ _ h1
  exact heap_setCell_same _ g 2 _ _ _ h2
theorem set3_below {w W : World} {B g : Nat} (a b c : Value) (h : Below B w W) (hg : B ≤ g) : Below B w (((W.setCell ⟨g, 0, none⟩ a).setCell ⟨g, 1, none⟩ b).setCell ⟨g, 2, none⟩ c) :=
  ((h.setCell hg _).setCell hg _).setCell hg _
end Go.Proofs.YtdidengokijcjaaDoor.StW
/-
  alluviumref04.Get, behind the first time: THE WALK. (Printed by wip/gen/strefh.py.)
-/
namespace Go.Proofs.YtdidengokijcjaaDoor.StW
set_option linter.unusedVariables false
open Go.RowKit Go.Shelf BitsM BitsW StM
theorem ones_end_false {b : List Bool} {i : Nat} (hi : i < 4) (hl : i < b.length) (ht : b.take i = List.replicate i true) (hb : b[i]'hl = false) : ones b = i := by
  refine ones_of _ i (by omega) ht (.inr ?_)
  rw [List.head?_drop, List.getElem?_eq_getElem hl, hb]
  simp
theorem ones_end_len {b : List Bool} {i : Nat} (hi : i ≤ 4) (hl : b.length ≤ i) (ht : b.take i = List.replicate i true) : ones b = i := by
  refine ones_of _ i hi ht (.inr ?_)
  rw [List.head?_drop, List.getElem?_eq_none hl]
  simp
theorem take_next_true {b : List Bool} {i : Nat} (hl : i < b.length) (ht : b.take i = List.replicate i true) (hb : b[i]'hl = true) : b.take (i + 1) = List.replicate (i + 1) true := by
  rw [List.take_add_one, ht, List.getElem?_eq_getElem hl, hb, List.replicate_succ']
  rfl
end Go.Proofs.YtdidengokijcjaaDoor.StW
/-
  alluviumref04.Bits, All, Read: THE WALKS.
-/
namespace Go.Proofs.YtdidengokijcjaaDoor.StW
set_option linter.unusedVariables false
open Go.RowKit Go.Shelf BitsM BitsW StM
theorem bstr_nil : (⟨#[]⟩ : ByteArray) = bstr [] := rfl
set_option maxRecDepth 20000 in
set_option maxHeartbeats 4000000 in
theorem rbitsAll_any (A : Option Addr) (n c : Nat) (l : List Int) (w : World) (hl : Comes w 1 encI okI A n c l) (hn : n ≤ 1000000) :
    Calls Tryd.prog 32 #[.slice A n c] w fun e w' => e = .returned (.string (bstr (bitsAll s0 l))) ∧ Below w.heap.size w w' := by
  have HL := Lib.hid hl
  have hcap : c ≤ 9223372036854775807 := hl.cap
  have hle := hl.le
  clear hl
  go_enter Tryd.func32, Tryd.ntmps32
  go_wp2_with fail
  have HB0 : Hid (Below w.heap.size w (w.alloc (RtObj s0)) ∧ RtAt (w.alloc (RtObj s0)) w.heap.size s0) := Lib.hid (And.intro ((Below.refl _ _).alloc (Nat.le_refl _) _) (heap_alloc_new w _))
  go_loopw [3, 5, 6, 7] (fun v3 v5 _ _ wr => ∃ k : Nat, k ≤ n ∧ v5 = .int .i64 k ∧ v3 = .string (bstr (bitsAll s0 (l.take k))) ∧ Below w.heap.size w wr ∧ RtAt wr w.heap.size (stAll s0 (l.take k))) (fun _ v5 _ _ _ => n - (intOf v5).toNat)
  case atStart => exact ⟨0, Nat.zero_le _, rfl, rfl, HB0.out.1, HB0.out.2⟩
  case round =>
    obtain ⟨k, hk, rfl, rfl, ho, hst⟩ := hrel
    have hln := HL.out.len
    by_cases hlt : k < n
    · have hkl : k < l.length := by omega
      obtain ⟨b, o, rfl, hcs⟩ := int_cells HL.out.lies hkl
      have hc0 := hcs _ ho
      have htk := take_snocL l k hkl
      have e1 : bitsAll s0 (l.take (k + 1)) = bitsAll s0 (l.take k) ++ putS (stAll s0 (l.take k)) l[k] := by rw [htk, bitsAll_snoc]
      have e2 : stAll s0 (l.take (k + 1)) = aftS (stAll s0 (l.take k)) l[k] := by rw [htk, stAll_snoc]
      have hbl := bitsAll_len s0 (l.take k)
      rw [List.length_take, Nat.min_eq_left (by omega)] at hbl
      have hpl := putS_len (stAll s0 (l.take k)) l[k]
      generalize l[k] = t at *
      generalize bitsAll s0 (l.take k) = bs at *
      generalize stAll s0 (l.take k) = s at *
      obtain ⟨N, T, D⟩ := s
      have HP := Lib.hid (rput_any (N, T, D) t)
      generalize putS (N, T, D) t = P at *
      generalize hs' : aftS (N, T, D) t = s' at *
      obtain ⟨x, y, z⟩ := s'
      have HE := Lib.hid (And.intro e1 e2)
      have c0 := hst.c0
      have c1 := hst.c1
      have c2 := hst.c2
      have HS := Lib.hid (And.intro ho hst)
      have hz1 := bstr_size bs
      have hz2 := bstr_size P
      obtain ⟨q1, hq1⟩ : ∃ q1, bs.length = q1 := ⟨_, rfl⟩
      obtain ⟨q2, hq2⟩ : ∃ q2, P.length = q2 := ⟨_, rfl⟩
      rw [hq1] at hz1 hbl
      rw [hq2] at hz2 hpl
      have i0 : (0 : Int) ≤ (k : Int) := by omega
      have i1 : (k : Int) < (n : Int) := by omega
      have HCS := Lib.hid hcs
      clear ho hst hln hcs htk e1 e2 hs' hq1 hq2
      simp only [] at c0 c1 c2
      have K := Lib.hid (fun (W W' : World) (h : Below w.heap.size w W ∧ RtAt W w.heap.size (N, T, D)) (hb' : Below W.heap.size W W') =>
        (⟨⟨later h.1 hb', h.2.later hb'⟩, HCS.out _ (later h.1 hb'), (h.2.later hb').c0, (h.2.later hb').c1, (h.2.later hb').c2⟩ :
          (Below w.heap.size w W' ∧ RtAt W' w.heap.size (N, T, D)) ∧ W'.cell? ⟨b, o + k, none⟩ = some (.int .i64 t) ∧ W'.cell? ⟨w.heap.size, 0, none⟩ = some (.int .i64 N) ∧ W'.cell? ⟨w.heap.size, 1, none⟩ = some (.int .i64 T) ∧ W'.cell? ⟨w.heap.size, 2, none⟩ = some (.int .i64 D)))
      have hS0 := K.out _ _ HS.out (below_self_drew wr)
      have K2 := Lib.hid (fun (W' : World) (h1 : Below w.heap.size w W') (h2 : RtAt W' w.heap.size (N, T, D)) =>
        (⟨⟨h1, h2⟩, HCS.out _ h1, h2.c0, h2.c1, h2.c2⟩ : (Below w.heap.size w W' ∧ RtAt W' w.heap.size (N, T, D)) ∧ W'.cell? ⟨b, o + k, none⟩ = some (.int .i64 t) ∧ W'.cell? ⟨w.heap.size, 0, none⟩ = some (.int .i64 N) ∧ W'.cell? ⟨w.heap.size, 1, none⟩ = some (.int .i64 T) ∧ W'.cell? ⟨w.heap.size, 2, none⟩ = some (.int .i64 D)))
      have hwz : w.heap.size + 1 ≤ wr.heap.size := (Array.getElem?_eq_some_iff.1 HS.out.2).1
      have K3 := Lib.hid (fun (W9 : World) (h : Below wr.drew.heap.size wr.drew W9) (ob : Obj) => K.out wr.drew (W9.alloc ob) hS0.1 (h.alloc h.size ob))
      have K5 := Lib.hid (fun (ob : Obj) => K.out wr (wr.alloc ob).drew HS.out (show Below wr.heap.size wr (wr.alloc ob).drew from ((Below.refl _ _).alloc (Nat.le_refl _) ob).trans ⟨rfl, rfl, rfl, Nat.le_refl _, fun _ _ => rfl⟩))
      have Z := Lib.hid (fun (W9 : World) (h : Below (wr.alloc (.cells #[.int .i64 0, .int .i64 0, .int .i64 0] 76 (0, 0))).drew.heap.size (wr.alloc (.cells #[.int .i64 0, .int .i64 0, .int .i64 0] 76 (0, 0))).drew W9) =>
        have hz : RtAt W9 wr.heap.size (0, 0, 0) := RtAt.later (W := (wr.alloc (.cells #[.int .i64 0, .int .i64 0, .int .i64 0] 76 (0, 0))).drew) (heap_alloc_new wr _) h
        (⟨hz.c0, hz.c1, hz.c2, frozen_of_row W9 _ 0 _ _ hz, frozen_of_row W9 _ 1 _ _ hz, frozen_of_row W9 _ 2 _ _ hz⟩ :
          W9.cell? ⟨wr.heap.size, 0, none⟩ = some (.int .i64 0) ∧ W9.cell? ⟨wr.heap.size, 1, none⟩ = some (.int .i64 0) ∧ W9.cell? ⟨wr.heap.size, 2, none⟩ = some (.int .i64 0) ∧ W9.frozen? ⟨wr.heap.size, 0, none⟩ = false ∧ W9.frozen? ⟨wr.heap.size, 1, none⟩ = false ∧ W9.frozen? ⟨wr.heap.size, 2, none⟩ = false))
      have HPZ := Lib.hid ((HP.out (wr.alloc (.cells #[.int .i64 0, .int .i64 0, .int .i64 0] 76 (0, 0))).drew).mono fun e W9 h => (And.intro h.1 (And.intro h.2 (Z.out _ h.2)) : _))
      have K4 := Lib.hid (fun (W9 : World) (ob : Obj) (h : Below (wr.alloc ob).drew.heap.size (wr.alloc ob).drew W9) (a b' c' : Value) =>
        K2.out (((W9.setCell ⟨wr.heap.size, 0, none⟩ a).setCell ⟨wr.heap.size, 1, none⟩ b').setCell ⟨wr.heap.size, 2, none⟩ c')
          (set3_below _ _ _ (hS0.1.1.trans (((Below.refl _ _).alloc (Nat.le_refl _) ob).mono hS0.1.1.size |>.trans (h.mono (Nat.le_trans hS0.1.1.size (by simp))))) (by omega))
          (((heap_setCell_other _ _ _ _ (by show w.heap.size ≠ wr.heap.size; omega)).trans ((heap_setCell_other _ _ _ _ (by show w.heap.size ≠ wr.heap.size; omega)).trans (heap_setCell_other _ _ _ _ (by show w.heap.size ≠ wr.heap.size; omega)))).trans
            ((hS0.1.2.later ((Below.refl _ _).alloc (Nat.le_refl _) ob)).later h)))
      clear c0 c1 c2 hc0
      go_wp2_with fail
      go_region_held3 (fun W : World => (Below w.heap.size w W ∧ RtAt W w.heap.size (N, T, D)) ∧ W.cell? ⟨b, o + k, none⟩ = some (.int .i64 t) ∧ W.cell? ⟨w.heap.size, 0, none⟩ = some (.int .i64 N) ∧ W.cell? ⟨w.heap.size, 1, none⟩ = some (.int .i64 T) ∧ W.cell? ⟨w.heap.size, 2, none⟩ = some (.int .i64 D))
        (first | exact hS0 | exact K5.out _ | exact K.out _ _ (And.left (by assumption)) (by assumption) | exact K3.out _ (by assumption) _ | exact K4.out _ _ (by assumption) _ _ _)
        (first
          | (go_at_call 44; refine HPZ.out.mono ?_; rintro e w9 ⟨rfl, hb9, z0, z1, z2, y0, y1, y2⟩)
          | (go_at_call 44; refine (HP.out _).mono ?_; rintro e w9 ⟨rfl, hb9⟩))
      · rename_i hh
        have ht4 := heap_alloc_new w9 (RtObj (x, y, z))
        change RtAt (w9.alloc (.cells #[.int .i64 x, .int .i64 y, .int .i64 z] 76 (0, 0))) w9.heap.size (x, y, z) at ht4
        generalize w9.alloc (.cells #[.int .i64 x, .int .i64 y, .int .i64 z] 76 (0, 0)) = w4 at hh ht4 ⊢
        have HB4 := Lib.hid hh.1.1
        have hst4 := hh.1.2
        have k0 := ht4.c0
        have k1 := ht4.c1
        have k2 := ht4.c2
        simp only [] at k0 k1 k2
        clear hh ht4 K K2 K3 K4 K5 HPZ hS0 Z HP hb9
        go_wp2_with (refine wpList_store_row rfl 76 _ _ rfl w.heap.size #[.int .i64 x, .int .i64 y, .int .i64 z] rfl rfl 76 _ hst4 info_rt rfl (by simp [Value.oneCell']) ?_; have HB5 := Lib.hid (below_setRow HB4.out (Nat.le_refl _) #[.int .i64 x, .int .i64 y, .int .i64 z]); have HR5 : Hid (RtAt (w4.setRow w.heap.size #[.int .i64 x, .int .i64 y, .int .i64 z]) w.heap.size (x, y, z)) := Lib.hid (setRow_heap _ _ _ _ _ _ hst4); clear hst4 k0 k1 k2; generalize w4.setRow w.heap.size #[.int .i64 x, .int .i64 y, .int .i64 z] = w5 at HB5 HR5 ⊢)
        go_roundw
        case rel => exact ⟨k + 1, by omega, by go_num, by rw [HE.out.1, bstr_append], HB5.out, by rw [HE.out.2]; exact HR5.out⟩
        case measure => simp [intOf]; omega
      · rename_i hh
        have hz9 : RtAt w9 wr.heap.size (0, 0, 0) := RtAt.later (W := (wr.alloc (RtObj (0, 0, 0))).drew) (heap_alloc_new wr _) hb9
        have ht4 : RtAt (((w9.setCell ⟨wr.heap.size, 0, none⟩ (.int .i64 x)).setCell ⟨wr.heap.size, 1, none⟩ (.int .i64 y)).setCell ⟨wr.heap.size, 2, none⟩ (.int .i64 z)) wr.heap.size (x, y, z) := set3_row _ _ _ hz9
        generalize ((w9.setCell ⟨wr.heap.size, 0, none⟩ (.int .i64 x)).setCell ⟨wr.heap.size, 1, none⟩ (.int .i64 y)).setCell ⟨wr.heap.size, 2, none⟩ (.int .i64 z) = w4 at hh ht4 ⊢
        have HB4 := Lib.hid hh.1.1
        have hst4 := hh.1.2
        have k0 := ht4.c0
        have k1 := ht4.c1
        have k2 := ht4.c2
        simp only [] at k0 k1 k2
        clear hh ht4 K K2 K3 K4 K5 HPZ hS0 Z HP hb9
        go_wp2_with (refine wpList_store_row rfl 76 _ _ rfl w.heap.size #[.int .i64 x, .int .i64 y, .int .i64 z] rfl rfl 76 _ hst4 info_rt rfl (by simp [Value.oneCell']) ?_; have HB5 := Lib.hid (below_setRow HB4.out (Nat.le_refl _) #[.int .i64 x, .int .i64 y, .int .i64 z]); have HR5 : Hid (RtAt (w4.setRow w.heap.size #[.int .i64 x, .int .i64 y, .int .i64 z]) w.heap.size (x, y, z)) := Lib.hid (setRow_heap _ _ _ _ _ _ hst4); clear hst4 k0 k1 k2; generalize w4.setRow w.heap.size #[.int .i64 x, .int .i64 y, .int .i64 z] = w5 at HB5 HR5 ⊢)
        go_roundw
        case rel => exact ⟨k + 1, by omega, by go_num, by rw [HE.out.1, bstr_append], HB5.out, by rw [HE.out.2]; exact HR5.out⟩
        case measure => simp [intOf]; omega
    · obtain rfl : k = n := by omega
      rw [List.take_of_length_le (by omega)]
      have HO := Lib.hid ho
      clear ho hst hln
      go_wp2
      go_ret
      exact ⟨rfl, HO.out⟩
set_option maxRecDepth 20000 in
set_option maxHeartbeats 1000000 in
theorem rall_any (A : Option Addr) (n c : Nat) (l : List Int) (w : World) (hl : Comes w 1 encI okI A n c l) (hn : n ≤ 1000000) :
    Calls Tryd.prog 24 #[.slice A n c] w fun e w' => e = .returned (.string ⟨(pack (bitsAll s0 l)).toArray⟩) ∧ Below w.heap.size w w' := by
  have HA := Lib.hid (rbitsAll_any A n c l w hl hn)
  have hbl := bitsAll_len s0 l
  have hln := hl.len
  have HB := Lib.hid (fun W => rbytes_any (bitsAll s0 l) W (by omega))
  clear hl hbl hln
  generalize bitsAll s0 l = bs at *
  go_enter Tryd.func24, Tryd.ntmps24
  go_wp2_with fail
  refine HA.out.mono ?_
  rintro e w1 ⟨rfl, hb1⟩
  have HB1 := Lib.hid hb1
  clear hb1
  go_wp2_with fail
  refine (HB.out _).mono ?_
  rintro e w2 ⟨rfl, hb2⟩
  have HB2 := Lib.hid (later HB1.out hb2)
  clear hb2
  go_wp2
  go_ret
  exact ⟨rfl, HB2.out⟩
theorem refG_split {b : List Bool} {s : St} (hs : okSt s) (n : Nat) : readS b (n + 1) s = (if (refG b s).2.2 then (readS (refG b s).2.1 n (refG b s).1).map (fun x : List Int × List Bool => ((refG b s).1.2.1 :: x.1, x.2)) else none) := by
  unfold refG
  cases h : getS b s with
  | none => show (match getS b s with | none => none | some (t, k) => _) = _; rw [h]; rfl
  | some x =>
    obtain ⟨t, k⟩ := x
    show (match getS b s with | none => none | some (t, k) => (readS (b.drop k) n (aftS s t)).map fun x : List Int × List Bool => (t :: x.1, x.2)) = _
    rw [h]
    simp only [if_true, aft_T]
theorem refG_ok {b : List Bool} {s : St} (hs : okSt s) : okSt (refG b s).1 ∧ (refG b s).2.1.length ≤ b.length := by
  unfold refG
  cases h : getS b s with
  | none => exact ⟨hs, Nat.le_refl _⟩
  | some x =>
    obtain ⟨t, k⟩ := x
    obtain ⟨h1, -⟩ := put_get b s t k hs h
    exact ⟨okSt_aft hs h1, by show (b.drop k).length ≤ _; rw [List.length_drop]; omega⟩
theorem okSt0 : okSt s0 := show okSt (0, 0, 0) by unfold okSt okI; simp
/-- 'append(s, x)' of one thing, onto a row of the call's own: all other blocks are as they were. -/
theorem wpList_append_keep {P : Program} {ops : Array Oper} {rest : List Oper} {o : Oper} {a : Act} {Q : Exit → Act → World → Prop} (hgd : o.guard = none) (s x : Operand) (t : TypeId)
    (ho : o.op = .call { callee := .builtin .append, args := #[s, x], argTypes := #[t, t] })
    (base : Nat) (e : TypeId) (z : Value) (size bytes : Nat) (ht : P.underlying t = some (.slice e)) (he : Elem P e z size bytes) (hzs : z.cells.size = size) (hsz : 0 < size)
    {v : Value} {n : Nat} {xs : List Value} (wr : World) (hown : wr.ownsRow base e size v n xs) (hs : a.eval s = v) (us : Array Value)
    (hx : a.eval x = .slice (some ⟨wr.heap.size, 0, none⟩) 1 1) (hl : us.size = size) (h1 : ∀ u ∈ us.toList, u.oneCell' = true)
    (hbytes : (n + 1) * bytes ≤ 140737488355328) (h63 : n + 1 ≤ 140737488355328) (hbase : base ≤ wr.heap.size)
    (h : ∀ v' w', w'.ownsRow base e size v' (n + 1) (xs ++ us.toList) → Below base wr w' → wr.heap.size < w'.heap.size → (∀ k, k < wr.heap.size → v.ownBlock ≠ some k → w'.heap[k]? = wr.heap[k]?) → wpList P ops Q rest (a.put o.dst v') w') :
    wpList P ops Q (o :: rest) a (wr.alloc (.cells us e (0, 0))) := by
  obtain ⟨i0, hi, hz0, hz1, hz2⟩ := info_parts he
  refine wpList_append_own (w := wr.alloc (.cells us e (0, 0))) hgd s x t ho base e i0 z size bytes ht hi hz0 hz1 hz2 hzs hsz v n xs hs (hown.alloc _) ⟨wr.heap.size, 0, none⟩ 1 1 us.toList hx (by simp [hl]) ?_ h1 ?_ hbytes ?_ ?_
  · intro j u hj
    have hp : (⟨wr.heap.size, 0, none⟩ : Addr).add j = ⟨wr.heap.size, j, none⟩ := by unfold Addr.add; split <;> simp_all
    rw [hp, World.cell?_alloc_mark]
    simpa using hj
  · unfold maxLen; omega
  · simp; omega
  · intro v' w' hown' hg _
    refine h v' w' hown' ?_ ?_ ?_
    · refine ((Below.refl base wr).alloc hbase _).grown hg (by simp; omega) ?_
      intro k hk
      rcases hown.2 with ⟨hv, _⟩ | ⟨g, cap, cur, hv, hgb, _⟩
      · rw [hv] at hk; cases hk
      · rw [hv] at hk; cases hk; exact hgb
    · have := hg.size; simp at this; omega
    · intro k hk hne
      exact (hg.block k (by simp; omega) (fun e => hne e.symm)).trans (Below.heap_alloc wr _ k hk)
theorem own_lt {w : World} {base n size : Nat} {e : TypeId} {v : Value} {xs : List Value} (h : w.ownsRow base e size v n xs) : ∀ k, v.ownBlock = some k → base ≤ k ∧ k < w.heap.size := by
  intro k hk
  rcases h.2 with ⟨hv, _⟩ | ⟨g, cap, cur, hv, hgb, hh, _⟩
  · rw [hv] at hk; cases hk
  · rw [hv] at hk; cases hk; exact ⟨hgb, (Array.getElem?_eq_some_iff.1 hh).1⟩
end Go.Proofs.YtdidengokijcjaaDoor.StW
