/-
  alluviumref04.Put, at; alluviumlaw04.of: THE WALKS.
-/
import Derived.Test.YtdnipfkpfdglnaaStWorks
namespace Go.Proofs.Ytdnipfkpfdglnaa.StW
open Go.RowKit Go.Shelf BitsM BitsW StM
def RtObj (s : St) : Obj := .cells #[.int .i64 s.1, .int .i64 s.2.1, .int .i64 s.2.2] 28 (0, 0)
theorem info_rt : (Try.prog.info? 28).map (·.size) = some 3 := by kernel_rfl
def RtAt (W : World) (g : Nat) (s : St) : Prop := W.heap[g]? = some (RtObj s)
theorem RtAt.c0 {W : World} {g : Nat} {s : St} (h : RtAt W g s) : W.cell? ⟨g, 0, none⟩ = some (.int .i64 s.1) := by rw [cell_of_row W _ _ _ _ _ h]; rfl
theorem RtAt.c1 {W : World} {g : Nat} {s : St} (h : RtAt W g s) : W.cell? ⟨g, 1, none⟩ = some (.int .i64 s.2.1) := by rw [cell_of_row W _ _ _ _ _ h]; rfl
theorem RtAt.c2 {W : World} {g : Nat} {s : St} (h : RtAt W g s) : W.cell? ⟨g, 2, none⟩ = some (.int .i64 s.2.2) := by rw [cell_of_row W _ _ _ _ _ h]; rfl
theorem RtAt.later {W W' : World} {g : Nat} {s : St} (h : RtAt W g s) (hb : Below W.heap.size W W') : RtAt W' g s := (hb.block _ (Array.getElem?_eq_some_iff.1 h).1).trans h
set_option maxHeartbeats 400000 in
theorem lof_any (s : St) (w : World) : Calls Try.prog 14 #[.agg #[.int .i64 s.1, .int .i64 s.2.1, .int .i64 s.2.2]] w fun e w' => e = .returned (.agg #[.int .i64 s.1, .int .i64 s.2.1, .int .i64 s.2.2]) ∧ Below w.heap.size w w' := by
  obtain ⟨n, T, D⟩ := s
  go_enter Try.func14, Try.ntmps14
  go_wp2
  exact bodyPost_ret (v := .agg #[.int .i64 n, .int .i64 T, .int .i64 D]) (by simp [results, Try.results14, go_sem]) rfl ⟨rfl, ((Below.refl _ _).alloc (Nat.le_refl _) _).alloc (by simp) _⟩
set_option maxHeartbeats 400000 in
theorem rat_none (b : List Bool) (p n : Nat) (off : Int) (w : World) (hp : p ≤ 100) (hn : n ≤ 64) (hb : b.length < p + n) :
    Calls Try.prog 40 #[.string (bstr b), .int .i64 (p : Int), .int .i64 (n : Int), .int .i64 off] w fun e w' => e = .returned (.tuple #[.int .i64 0, .bool false]) ∧ w = w' := by
  have hz := bstr_size b
  generalize hl : b.length = l at *
  go_enter Try.func40, Try.ntmps40
  go_wp2
  go_ret2
  exact ⟨rfl, rfl⟩
set_option maxHeartbeats 400000 in
theorem rat_some (b : List Bool) (p n : Nat) (off : Int) (w : World) (hp : p ≤ 100) (hn : n ≤ 64) (hb : p + n ≤ b.length) (hl : b.length ≤ 1099511627776) :
    Calls Try.prog 40 #[.string (bstr b), .int .i64 (p : Int), .int .i64 (n : Int), .int .i64 off] w fun e w' => e = .returned (.tuple #[.int .i64 (wrap64 (wrap64 (numB ((b.drop p).take n) : Int) - off)), .bool true]) ∧ w = w' := by
  have hz := bstr_size b
  have hsl := slice_mid (P := Try.prog) Try.underlying9 (bstr b) (p : Int) ((p : Int) + (n : Int)) p (p + n) rfl (by omega) (by omega) (by omega)
  rw [bstr_extract, show p + n - p = n by omega] at hsl
  have hdl : ((b.drop p).take n).length ≤ 64 := by rw [List.length_take, List.length_drop]; omega
  generalize (b.drop p).take n = d at *
  generalize hl' : b.length = l at *
  have HD := Lib.hid hdl
  clear hdl
  obtain ⟨V, hV⟩ : ∃ V, numB d = V := ⟨_, rfl⟩
  have HV := Lib.hid hV
  rw [hV]
  clear hV
  go_enter Try.func40, Try.ntmps40
  go_wp2_with fail
  refine (rnumber_any d _ HD.out).mono ?_
  rintro e w' ⟨rfl, rfl⟩
  rw [HV.out]
  go_wp2
  go_ret2
  exact ⟨rfl, rfl⟩
theorem bstr_z : (⟨#[48]⟩ : ByteArray) = bstr [false] := rfl
theorem bstr_oz : (⟨#[49, 48]⟩ : ByteArray) = bstr [true, false] := rfl
theorem bstr_ooz : (⟨#[49, 49, 48]⟩ : ByteArray) = bstr [true, true, false] := rfl
theorem bstr_oooz : (⟨#[49, 49, 49, 48]⟩ : ByteArray) = bstr [true, true, true, false] := rfl
theorem bstr_oooo : (⟨#[49, 49, 49, 49]⟩ : ByteArray) = bstr [true, true, true, true] := rfl
theorem u64_wrap64 (x : Int) : u64 (wrap64 x) = u64 x := by unfold u64 wrap64; omega
set_option maxHeartbeats 2000000 in
theorem rput_first (s : St) (t : Int) (w : World) (h0 : s.1 = 0) :
    Calls Try.prog 13 #[.agg #[.int .i64 s.1, .int .i64 s.2.1, .int .i64 s.2.2], .int .i64 t] w fun e w' => e = .returned (.tuple #[.string (bstr (putS s t)), .agg #[.int .i64 (aftS s t).1, .int .i64 (aftS s t).2.1, .int .i64 (aftS s t).2.2]]) ∧ Below w.heap.size w w' := by
  obtain ⟨N, T, D⟩ := s
  obtain rfl : N = 0 := h0
  have hv := wrapu_eq t
  have e1 : putS (0, T, D) t = msb (u64 t) 64 := rfl
  have e2 : aftS (0, T, D) t = (1, t, 0) := rfl
  rw [e1, e2]
  have hu := u64_lt t
  obtain ⟨U, hU⟩ : ∃ U, u64 t = U := ⟨_, rfl⟩
  rw [hU] at hv hu ⊢
  clear e1 e2 hU
  have HM := Lib.hid (rbits_any U 64)
  rw [show within 64 = 64 from rfl] at HM
  obtain ⟨S, hS⟩ : ∃ S, bstr (msb U 64) = S := ⟨_, rfl⟩
  rw [hS] at HM ⊢
  clear hS
  go_enter Try.func13, Try.ntmps13
  go_wp2_with fail
  refine (HM.out _ hu (by omega)).mono ?_
  rintro e w' ⟨rfl, rfl⟩
  go_wp2
  exact bodyPost_ret (v := .tuple #[.string S, .agg #[.int .i64 1, .int .i64 t, .int .i64 0]]) (by simp [results, Try.results13, go_sem]) rfl ⟨rfl, ((Below.refl _ _).alloc (Nat.le_refl _) _).alloc (by simp) _⟩
set_option maxHeartbeats 2000000 in
theorem rput_0 (s : St) (t : Int) (w : World) (h0 : ¬ s.1 = 0) (hk : cls (chg s t) = 0) :
    Calls Try.prog 13 #[.agg #[.int .i64 s.1, .int .i64 s.2.1, .int .i64 s.2.2], .int .i64 t] w fun e w' => e = .returned (.tuple #[.string (bstr (putS s t)), .agg #[.int .i64 (aftS s t).1, .int .i64 (aftS s t).2.1, .int .i64 (aftS s t).2.2]]) ∧ Below w.heap.size w w' := by
  have e1 : putS s t = [false] ++ msb (u64 (chg s t - lowC 0)) 0 := by unfold putS codeC valC; rw [if_neg h0, hk]; rfl
  have e2 : aftS s t = (IntKind.i64.wrap (s.1 + 1), t, wrap64 (t - s.2.1)) := by unfold aftS; rw [if_neg h0, wrap_eq]
  have hin := cls_in (chg s t)
  have hout := cls_out (chg s t)
  have hci : okI (chg s t) := okI_wrap _
  rw [e1, e2]
  have hcc : wrap64 (wrap64 (t - s.2.1) - s.2.2) = chg s t := rfl
  have hb0 : (s.1 == 0) = false := by simpa using h0
  obtain ⟨N, T, D⟩ := s
  simp only [] at hb0 hcc ⊢
  generalize chg (N, T, D) t = c at *
  rw [hk] at hin hout
  unfold okI at hci
  have hc0 : c = 0 := by
    rcases hin with h | ⟨h1, h2⟩
    · cases h
    · have h1 : (0 : Int) ≤ c := h1
      have h2 : c ≤ (0 : Int) := h2
      omega
  have hceq : (c == 0) = true := by simpa using hc0
  clear hin hout hk h0 e1 e2
  have e9 : bstr ([false] ++ msb (u64 (c - lowC 0)) 0) = (⟨#[48]⟩ : ByteArray) := rfl
  rw [e9]
  clear e9
  obtain ⟨y, hy⟩ : ∃ y, wrap64 (t - T) = y := ⟨_, rfl⟩
  rw [hy] at hcc ⊢
  obtain ⟨wA, hwA⟩ : ∃ wA, (w.alloc (RtObj (N, T, D))).alloc (RtObj (0, 0, 0)) = wA := ⟨_, rfl⟩
  have hbA : Below w.heap.size w wA := by rw [← hwA]; exact ((Below.refl _ _).alloc (Nat.le_refl _) _).alloc (by simp) _
  have hst : RtAt wA w.heap.size (N, T, D) := by rw [← hwA]; exact (heap_past _ _ (by simp)).trans (heap_alloc_new w _)
  have hres : RtAt wA (w.heap.size + 1) (0, 0, 0) := by rw [← hwA]; exact heap_at _ _ (by simp)
  have c0 := hst.c0
  have c1 := hst.c1
  have c2 := hst.c2
  have HB := Lib.hid hbA
  have HR := Lib.hid hres
  clear hst hbA hres
  change (w.alloc (.cells #[.int .i64 N, .int .i64 T, .int .i64 D] 28 (0, 0))).alloc (.cells #[.int .i64 0, .int .i64 0, .int .i64 0] 28 (0, 0)) = wA at hwA
  go_enter Try.func13, Try.ntmps13
  go_wp2_with fail
  try rw [hwA]
  go_still_tail 8, (by kernel_rfl)
  have hresd : RtAt wA.drew (w.heap.size + 1) (0, 0, 0) := HR.out
  have hbdr : Below w.heap.size w wA.drew := HB.out.trans ⟨rfl, rfl, rfl, Nat.le_refl _, fun _ _ => rfl⟩
  have hbd : Below w.heap.size w (wA.drew.setRow (w.heap.size + 1) #[.int .i64 (IntKind.i64.wrap (N + 1)), .int .i64 t, .int .i64 y]) := below_setRow hbdr (Nat.le_succ _) _
  have HBD := Lib.hid hbd
  clear hbd hbdr
  go_wp2_with (refine wpList_store_row rfl 28 _ _ rfl (w.heap.size + 1) #[.int .i64 (IntKind.i64.wrap (N + 1)), .int .i64 t, .int .i64 y] rfl rfl 28 _ hresd info_rt rfl (by simp [Value.oneCell']) ?_)
  have hr2 : RtAt (wA.drew.setRow (w.heap.size + 1) #[.int .i64 (IntKind.i64.wrap (N + 1)), .int .i64 t, .int .i64 y]) (w.heap.size + 1) (IntKind.i64.wrap (N + 1), t, y) := setRow_heap _ _ _ _ _ _ hresd
  have r0 := hr2.c0
  have r1 := hr2.c1
  have r2 := hr2.c2
  simp only [] at r0 r1 r2
  refine bodyPost_ret (v := .tuple #[.string ⟨#[48]⟩, .agg #[.int .i64 (IntKind.i64.wrap (N + 1)), .int .i64 t, .int .i64 y]]) ?_ rfl ⟨rfl, HBD.out⟩
  simp [results, Try.results13, go_sem, r0, r1, r2]
set_option maxHeartbeats 2000000 in
theorem rput_1 (s : St) (t : Int) (w : World) (h0 : ¬ s.1 = 0) (hk : cls (chg s t) = 1) :
    Calls Try.prog 13 #[.agg #[.int .i64 s.1, .int .i64 s.2.1, .int .i64 s.2.2], .int .i64 t] w fun e w' => e = .returned (.tuple #[.string (bstr (putS s t)), .agg #[.int .i64 (aftS s t).1, .int .i64 (aftS s t).2.1, .int .i64 (aftS s t).2.2]]) ∧ Below w.heap.size w w' := by
  have e1 : putS s t = [true, false] ++ msb (u64 (chg s t - lowC 1)) 7 := by unfold putS codeC valC; rw [if_neg h0, hk]; rfl
  have e2 : aftS s t = (IntKind.i64.wrap (s.1 + 1), t, wrap64 (t - s.2.1)) := by unfold aftS; rw [if_neg h0, wrap_eq]
  have hin := cls_in (chg s t)
  have hout := cls_out (chg s t)
  have hci : okI (chg s t) := okI_wrap _
  rw [e1, e2]
  have hcc : wrap64 (wrap64 (t - s.2.1) - s.2.2) = chg s t := rfl
  have hb0 : (s.1 == 0) = false := by simpa using h0
  obtain ⟨N, T, D⟩ := s
  simp only [] at hb0 hcc ⊢
  generalize chg (N, T, D) t = c at *
  rw [hk] at hin hout
  unfold okI at hci
  have q0 : c < 0 ∨ 0 < c := hout 0 (by omega)
  have hceq : (c == 0) = false := by simp; omega
  obtain ⟨r1, r2⟩ : (-63 : Int) ≤ c ∧ c ≤ 64 := by
    rcases hin with h | ⟨h1, h2⟩
    · cases h
    · exact ⟨h1, h2⟩
  clear hin hout hk h0 e1 e2
  rw [show c - lowC 1 = c + 63 by (show c - (-63) = _; omega)]
  have hv := wrapu_eq (c + 63)
  have hu := u64_lt (c + 63)
  obtain ⟨U, hU⟩ : ∃ U, u64 (c + 63) = U := ⟨_, rfl⟩
  rw [hU] at hv hu ⊢
  clear hU
  have HM := Lib.hid (rbits_any U 7)
  rw [show within 7 = 7 from rfl] at HM
  rw [bstr_append, ← bstr_oz]
  have hsz : (bstr (msb U 7)).size = 7 := by rw [bstr_size, msb_length]
  obtain ⟨S, hS⟩ : ∃ S, bstr (msb U 7) = S := ⟨_, rfl⟩
  rw [hS] at HM hsz ⊢
  clear hS
  obtain ⟨y, hy⟩ : ∃ y, wrap64 (t - T) = y := ⟨_, rfl⟩
  rw [hy] at hcc ⊢
  obtain ⟨wA, hwA⟩ : ∃ wA, (w.alloc (RtObj (N, T, D))).alloc (RtObj (0, 0, 0)) = wA := ⟨_, rfl⟩
  have hbA : Below w.heap.size w wA := by rw [← hwA]; exact ((Below.refl _ _).alloc (Nat.le_refl _) _).alloc (by simp) _
  have hst : RtAt wA w.heap.size (N, T, D) := by rw [← hwA]; exact (heap_past _ _ (by simp)).trans (heap_alloc_new w _)
  have hres : RtAt wA (w.heap.size + 1) (0, 0, 0) := by rw [← hwA]; exact heap_at _ _ (by simp)
  have c0 := hst.c0
  have c1 := hst.c1
  have c2 := hst.c2
  have HB := Lib.hid hbA
  have HR := Lib.hid hres
  clear hst hbA hres
  change (w.alloc (.cells #[.int .i64 N, .int .i64 T, .int .i64 D] 28 (0, 0))).alloc (.cells #[.int .i64 0, .int .i64 0, .int .i64 0] 28 (0, 0)) = wA at hwA
  go_enter Try.func13, Try.ntmps13
  go_wp2_with fail
  refine (HM.out _ hu (by omega)).mono ?_
  rintro e w' ⟨rfl, rfl⟩
  go_wp2_with fail
  try rw [hwA]
  go_still_tail 8, (by kernel_rfl)
  have hresd : RtAt wA.drew (w.heap.size + 1) (0, 0, 0) := HR.out
  have hbdr : Below w.heap.size w wA.drew := HB.out.trans ⟨rfl, rfl, rfl, Nat.le_refl _, fun _ _ => rfl⟩
  have hbd : Below w.heap.size w (wA.drew.setRow (w.heap.size + 1) #[.int .i64 (IntKind.i64.wrap (N + 1)), .int .i64 t, .int .i64 y]) := below_setRow hbdr (Nat.le_succ _) _
  have HBD := Lib.hid hbd
  clear hbd hbdr
  go_wp2_with (refine wpList_store_row rfl 28 _ _ rfl (w.heap.size + 1) #[.int .i64 (IntKind.i64.wrap (N + 1)), .int .i64 t, .int .i64 y] rfl rfl 28 _ hresd info_rt rfl (by simp [Value.oneCell']) ?_)
  have hr2 : RtAt (wA.drew.setRow (w.heap.size + 1) #[.int .i64 (IntKind.i64.wrap (N + 1)), .int .i64 t, .int .i64 y]) (w.heap.size + 1) (IntKind.i64.wrap (N + 1), t, y) := setRow_heap _ _ _ _ _ _ hresd
  have r0 := hr2.c0
  have r1 := hr2.c1
  have r2 := hr2.c2
  simp only [] at r0 r1 r2
  refine bodyPost_ret (v := .tuple #[.string (⟨#[49, 48]⟩ ++ S), .agg #[.int .i64 (IntKind.i64.wrap (N + 1)), .int .i64 t, .int .i64 y]]) ?_ rfl ⟨rfl, HBD.out⟩
  simp [results, Try.results13, go_sem, r0, r1, r2]
set_option maxHeartbeats 2000000 in
theorem rput_2 (s : St) (t : Int) (w : World) (h0 : ¬ s.1 = 0) (hk : cls (chg s t) = 2) :
    Calls Try.prog 13 #[.agg #[.int .i64 s.1, .int .i64 s.2.1, .int .i64 s.2.2], .int .i64 t] w fun e w' => e = .returned (.tuple #[.string (bstr (putS s t)), .agg #[.int .i64 (aftS s t).1, .int .i64 (aftS s t).2.1, .int .i64 (aftS s t).2.2]]) ∧ Below w.heap.size w w' := by
  have e1 : putS s t = [true, true, false] ++ msb (u64 (chg s t - lowC 2)) 9 := by unfold putS codeC valC; rw [if_neg h0, hk]; rfl
  have e2 : aftS s t = (IntKind.i64.wrap (s.1 + 1), t, wrap64 (t - s.2.1)) := by unfold aftS; rw [if_neg h0, wrap_eq]
  have hin := cls_in (chg s t)
  have hout := cls_out (chg s t)
  have hci : okI (chg s t) := okI_wrap _
  rw [e1, e2]
  have hcc : wrap64 (wrap64 (t - s.2.1) - s.2.2) = chg s t := rfl
  have hb0 : (s.1 == 0) = false := by simpa using h0
  obtain ⟨N, T, D⟩ := s
  simp only [] at hb0 hcc ⊢
  generalize chg (N, T, D) t = c at *
  rw [hk] at hin hout
  unfold okI at hci
  have q0 : c < 0 ∨ 0 < c := hout 0 (by omega)
  have hceq : (c == 0) = false := by simp; omega
  have q1 : c < -63 ∨ 64 < c := hout 1 (by omega)
  obtain ⟨r1, r2⟩ : (-255 : Int) ≤ c ∧ c ≤ 256 := by
    rcases hin with h | ⟨h1, h2⟩
    · cases h
    · exact ⟨h1, h2⟩
  clear hin hout hk h0 e1 e2
  rw [show c - lowC 2 = c + 255 by (show c - (-255) = _; omega)]
  have hv := wrapu_eq (c + 255)
  have hu := u64_lt (c + 255)
  obtain ⟨U, hU⟩ : ∃ U, u64 (c + 255) = U := ⟨_, rfl⟩
  rw [hU] at hv hu ⊢
  clear hU
  have HM := Lib.hid (rbits_any U 9)
  rw [show within 9 = 9 from rfl] at HM
  rw [bstr_append, ← bstr_ooz]
  have hsz : (bstr (msb U 9)).size = 9 := by rw [bstr_size, msb_length]
  obtain ⟨S, hS⟩ : ∃ S, bstr (msb U 9) = S := ⟨_, rfl⟩
  rw [hS] at HM hsz ⊢
  clear hS
  obtain ⟨y, hy⟩ : ∃ y, wrap64 (t - T) = y := ⟨_, rfl⟩
  rw [hy] at hcc ⊢
  obtain ⟨wA, hwA⟩ : ∃ wA, (w.alloc (RtObj (N, T, D))).alloc (RtObj (0, 0, 0)) = wA := ⟨_, rfl⟩
  have hbA : Below w.heap.size w wA := by rw [← hwA]; exact ((Below.refl _ _).alloc (Nat.le_refl _) _).alloc (by simp) _
  have hst : RtAt wA w.heap.size (N, T, D) := by rw [← hwA]; exact (heap_past _ _ (by simp)).trans (heap_alloc_new w _)
  have hres : RtAt wA (w.heap.size + 1) (0, 0, 0) := by rw [← hwA]; exact heap_at _ _ (by simp)
  have c0 := hst.c0
  have c1 := hst.c1
  have c2 := hst.c2
  have HB := Lib.hid hbA
  have HR := Lib.hid hres
  clear hst hbA hres
  change (w.alloc (.cells #[.int .i64 N, .int .i64 T, .int .i64 D] 28 (0, 0))).alloc (.cells #[.int .i64 0, .int .i64 0, .int .i64 0] 28 (0, 0)) = wA at hwA
  go_enter Try.func13, Try.ntmps13
  rcases q1 with q1 | q1
  all_goals first | (exfalso; omega) | skip
  all_goals
    go_wp2_with fail
    refine (HM.out _ hu (by omega)).mono ?_
    rintro e w' ⟨rfl, rfl⟩
    go_wp2_with fail
    try rw [hwA]
    go_still_tail 8, (by kernel_rfl)
    have hresd : RtAt wA.drew (w.heap.size + 1) (0, 0, 0) := HR.out
    have hbdr : Below w.heap.size w wA.drew := HB.out.trans ⟨rfl, rfl, rfl, Nat.le_refl _, fun _ _ => rfl⟩
    have hbd : Below w.heap.size w (wA.drew.setRow (w.heap.size + 1) #[.int .i64 (IntKind.i64.wrap (N + 1)), .int .i64 t, .int .i64 y]) := below_setRow hbdr (Nat.le_succ _) _
    have HBD := Lib.hid hbd
    clear hbd hbdr
    go_wp2_with (refine wpList_store_row rfl 28 _ _ rfl (w.heap.size + 1) #[.int .i64 (IntKind.i64.wrap (N + 1)), .int .i64 t, .int .i64 y] rfl rfl 28 _ hresd info_rt rfl (by simp [Value.oneCell']) ?_)
    have hr2 : RtAt (wA.drew.setRow (w.heap.size + 1) #[.int .i64 (IntKind.i64.wrap (N + 1)), .int .i64 t, .int .i64 y]) (w.heap.size + 1) (IntKind.i64.wrap (N + 1), t, y) := setRow_heap _ _ _ _ _ _ hresd
    have r0 := hr2.c0
    have r1 := hr2.c1
    have r2 := hr2.c2
    simp only [] at r0 r1 r2
    refine bodyPost_ret (v := .tuple #[.string (⟨#[49, 49, 48]⟩ ++ S), .agg #[.int .i64 (IntKind.i64.wrap (N + 1)), .int .i64 t, .int .i64 y]]) ?_ rfl ⟨rfl, HBD.out⟩
    simp [results, Try.results13, go_sem, r0, r1, r2]
set_option maxHeartbeats 2000000 in
theorem rput_3 (s : St) (t : Int) (w : World) (h0 : ¬ s.1 = 0) (hk : cls (chg s t) = 3) :
    Calls Try.prog 13 #[.agg #[.int .i64 s.1, .int .i64 s.2.1, .int .i64 s.2.2], .int .i64 t] w fun e w' => e = .returned (.tuple #[.string (bstr (putS s t)), .agg #[.int .i64 (aftS s t).1, .int .i64 (aftS s t).2.1, .int .i64 (aftS s t).2.2]]) ∧ Below w.heap.size w w' := by
  have e1 : putS s t = [true, true, true, false] ++ msb (u64 (chg s t - lowC 3)) 12 := by unfold putS codeC valC; rw [if_neg h0, hk]; rfl
  have e2 : aftS s t = (IntKind.i64.wrap (s.1 + 1), t, wrap64 (t - s.2.1)) := by unfold aftS; rw [if_neg h0, wrap_eq]
  have hin := cls_in (chg s t)
  have hout := cls_out (chg s t)
  have hci : okI (chg s t) := okI_wrap _
  rw [e1, e2]
  have hcc : wrap64 (wrap64 (t - s.2.1) - s.2.2) = chg s t := rfl
  have hb0 : (s.1 == 0) = false := by simpa using h0
  obtain ⟨N, T, D⟩ := s
  simp only [] at hb0 hcc ⊢
  generalize chg (N, T, D) t = c at *
  rw [hk] at hin hout
  unfold okI at hci
  have q0 : c < 0 ∨ 0 < c := hout 0 (by omega)
  have hceq : (c == 0) = false := by simp; omega
  have q1 : c < -63 ∨ 64 < c := hout 1 (by omega)
  have q2 : c < -255 ∨ 256 < c := hout 2 (by omega)
  obtain ⟨r1, r2⟩ : (-2047 : Int) ≤ c ∧ c ≤ 2048 := by
    rcases hin with h | ⟨h1, h2⟩
    · cases h
    · exact ⟨h1, h2⟩
  clear hin hout hk h0 e1 e2
  rw [show c - lowC 3 = c + 2047 by (show c - (-2047) = _; omega)]
  have hv := wrapu_eq (c + 2047)
  have hu := u64_lt (c + 2047)
  obtain ⟨U, hU⟩ : ∃ U, u64 (c + 2047) = U := ⟨_, rfl⟩
  rw [hU] at hv hu ⊢
  clear hU
  have HM := Lib.hid (rbits_any U 12)
  rw [show within 12 = 12 from rfl] at HM
  rw [bstr_append, ← bstr_oooz]
  have hsz : (bstr (msb U 12)).size = 12 := by rw [bstr_size, msb_length]
  obtain ⟨S, hS⟩ : ∃ S, bstr (msb U 12) = S := ⟨_, rfl⟩
  rw [hS] at HM hsz ⊢
  clear hS
  obtain ⟨y, hy⟩ : ∃ y, wrap64 (t - T) = y := ⟨_, rfl⟩
  rw [hy] at hcc ⊢
  obtain ⟨wA, hwA⟩ : ∃ wA, (w.alloc (RtObj (N, T, D))).alloc (RtObj (0, 0, 0)) = wA := ⟨_, rfl⟩
  have hbA : Below w.heap.size w wA := by rw [← hwA]; exact ((Below.refl _ _).alloc (Nat.le_refl _) _).alloc (by simp) _
  have hst : RtAt wA w.heap.size (N, T, D) := by rw [← hwA]; exact (heap_past _ _ (by simp)).trans (heap_alloc_new w _)
  have hres : RtAt wA (w.heap.size + 1) (0, 0, 0) := by rw [← hwA]; exact heap_at _ _ (by simp)
  have c0 := hst.c0
  have c1 := hst.c1
  have c2 := hst.c2
  have HB := Lib.hid hbA
  have HR := Lib.hid hres
  clear hst hbA hres
  change (w.alloc (.cells #[.int .i64 N, .int .i64 T, .int .i64 D] 28 (0, 0))).alloc (.cells #[.int .i64 0, .int .i64 0, .int .i64 0] 28 (0, 0)) = wA at hwA
  go_enter Try.func13, Try.ntmps13
  rcases q1 with q1 | q1 <;> rcases q2 with q2 | q2
  all_goals first | (exfalso; omega) | skip
  all_goals
    go_wp2_with fail
    refine (HM.out _ hu (by omega)).mono ?_
    rintro e w' ⟨rfl, rfl⟩
    go_wp2_with fail
    try rw [hwA]
    go_still_tail 8, (by kernel_rfl)
    have hresd : RtAt wA.drew (w.heap.size + 1) (0, 0, 0) := HR.out
    have hbdr : Below w.heap.size w wA.drew := HB.out.trans ⟨rfl, rfl, rfl, Nat.le_refl _, fun _ _ => rfl⟩
    have hbd : Below w.heap.size w (wA.drew.setRow (w.heap.size + 1) #[.int .i64 (IntKind.i64.wrap (N + 1)), .int .i64 t, .int .i64 y]) := below_setRow hbdr (Nat.le_succ _) _
    have HBD := Lib.hid hbd
    clear hbd hbdr
    go_wp2_with (refine wpList_store_row rfl 28 _ _ rfl (w.heap.size + 1) #[.int .i64 (IntKind.i64.wrap (N + 1)), .int .i64 t, .int .i64 y] rfl rfl 28 _ hresd info_rt rfl (by simp [Value.oneCell']) ?_)
    have hr2 : RtAt (wA.drew.setRow (w.heap.size + 1) #[.int .i64 (IntKind.i64.wrap (N + 1)), .int .i64 t, .int .i64 y]) (w.heap.size + 1) (IntKind.i64.wrap (N + 1), t, y) := setRow_heap _ _ _ _ _ _ hresd
    have r0 := hr2.c0
    have r1 := hr2.c1
    have r2 := hr2.c2
    simp only [] at r0 r1 r2
    refine bodyPost_ret (v := .tuple #[.string (⟨#[49, 49, 49, 48]⟩ ++ S), .agg #[.int .i64 (IntKind.i64.wrap (N + 1)), .int .i64 t, .int .i64 y]]) ?_ rfl ⟨rfl, HBD.out⟩
    simp [results, Try.results13, go_sem, r0, r1, r2]
set_option maxHeartbeats 2000000 in
theorem rput_4 (s : St) (t : Int) (w : World) (h0 : ¬ s.1 = 0) (hk : cls (chg s t) = 4) :
    Calls Try.prog 13 #[.agg #[.int .i64 s.1, .int .i64 s.2.1, .int .i64 s.2.2], .int .i64 t] w fun e w' => e = .returned (.tuple #[.string (bstr (putS s t)), .agg #[.int .i64 (aftS s t).1, .int .i64 (aftS s t).2.1, .int .i64 (aftS s t).2.2]]) ∧ Below w.heap.size w w' := by
  have e1 : putS s t = [true, true, true, true] ++ msb (u64 (chg s t - lowC 4)) 64 := by unfold putS codeC valC; rw [if_neg h0, hk]; rfl
  have e2 : aftS s t = (IntKind.i64.wrap (s.1 + 1), t, wrap64 (t - s.2.1)) := by unfold aftS; rw [if_neg h0, wrap_eq]
  have hin := cls_in (chg s t)
  have hout := cls_out (chg s t)
  have hci : okI (chg s t) := okI_wrap _
  rw [e1, e2]
  have hcc : wrap64 (wrap64 (t - s.2.1) - s.2.2) = chg s t := rfl
  have hb0 : (s.1 == 0) = false := by simpa using h0
  obtain ⟨N, T, D⟩ := s
  simp only [] at hb0 hcc ⊢
  generalize chg (N, T, D) t = c at *
  rw [hk] at hin hout
  unfold okI at hci
  have q0 : c < 0 ∨ 0 < c := hout 0 (by omega)
  have hceq : (c == 0) = false := by simp; omega
  have q1 : c < -63 ∨ 64 < c := hout 1 (by omega)
  have q2 : c < -255 ∨ 256 < c := hout 2 (by omega)
  have q3 : c < -2047 ∨ 2048 < c := hout 3 (by omega)
  clear hin hout hk h0 e1 e2
  rw [show c - lowC 4 = c by (show c - (0) = _; omega)]
  have hv := wrapu_eq (c)
  have hu := u64_lt (c)
  obtain ⟨U, hU⟩ : ∃ U, u64 (c) = U := ⟨_, rfl⟩
  rw [hU] at hv hu ⊢
  clear hU
  have HM := Lib.hid (rbits_any U 64)
  rw [show within 64 = 64 from rfl] at HM
  rw [bstr_append, ← bstr_oooo]
  have hsz : (bstr (msb U 64)).size = 64 := by rw [bstr_size, msb_length]
  obtain ⟨S, hS⟩ : ∃ S, bstr (msb U 64) = S := ⟨_, rfl⟩
  rw [hS] at HM hsz ⊢
  clear hS
  obtain ⟨y, hy⟩ : ∃ y, wrap64 (t - T) = y := ⟨_, rfl⟩
  rw [hy] at hcc ⊢
  obtain ⟨wA, hwA⟩ : ∃ wA, (w.alloc (RtObj (N, T, D))).alloc (RtObj (0, 0, 0)) = wA := ⟨_, rfl⟩
  have hbA : Below w.heap.size w wA := by rw [← hwA]; exact ((Below.refl _ _).alloc (Nat.le_refl _) _).alloc (by simp) _
  have hst : RtAt wA w.heap.size (N, T, D) := by rw [← hwA]; exact (heap_past _ _ (by simp)).trans (heap_alloc_new w _)
  have hres : RtAt wA (w.heap.size + 1) (0, 0, 0) := by rw [← hwA]; exact heap_at _ _ (by simp)
  have c0 := hst.c0
  have c1 := hst.c1
  have c2 := hst.c2
  have HB := Lib.hid hbA
  have HR := Lib.hid hres
  clear hst hbA hres
  change (w.alloc (.cells #[.int .i64 N, .int .i64 T, .int .i64 D] 28 (0, 0))).alloc (.cells #[.int .i64 0, .int .i64 0, .int .i64 0] 28 (0, 0)) = wA at hwA
  go_enter Try.func13, Try.ntmps13
  rcases q1 with q1 | q1 <;> rcases q2 with q2 | q2 <;> rcases q3 with q3 | q3
  all_goals first | (exfalso; omega) | skip
  all_goals
    go_wp2_with fail
    refine (HM.out _ hu (by omega)).mono ?_
    rintro e w' ⟨rfl, rfl⟩
    go_wp2_with fail
    try rw [hwA]
    go_still_tail 8, (by kernel_rfl)
    have hresd : RtAt wA.drew (w.heap.size + 1) (0, 0, 0) := HR.out
    have hbdr : Below w.heap.size w wA.drew := HB.out.trans ⟨rfl, rfl, rfl, Nat.le_refl _, fun _ _ => rfl⟩
    have hbd : Below w.heap.size w (wA.drew.setRow (w.heap.size + 1) #[.int .i64 (IntKind.i64.wrap (N + 1)), .int .i64 t, .int .i64 y]) := below_setRow hbdr (Nat.le_succ _) _
    have HBD := Lib.hid hbd
    clear hbd hbdr
    go_wp2_with (refine wpList_store_row rfl 28 _ _ rfl (w.heap.size + 1) #[.int .i64 (IntKind.i64.wrap (N + 1)), .int .i64 t, .int .i64 y] rfl rfl 28 _ hresd info_rt rfl (by simp [Value.oneCell']) ?_)
    have hr2 : RtAt (wA.drew.setRow (w.heap.size + 1) #[.int .i64 (IntKind.i64.wrap (N + 1)), .int .i64 t, .int .i64 y]) (w.heap.size + 1) (IntKind.i64.wrap (N + 1), t, y) := setRow_heap _ _ _ _ _ _ hresd
    have r0 := hr2.c0
    have r1 := hr2.c1
    have r2 := hr2.c2
    simp only [] at r0 r1 r2
    refine bodyPost_ret (v := .tuple #[.string (⟨#[49, 49, 49, 49]⟩ ++ S), .agg #[.int .i64 (IntKind.i64.wrap (N + 1)), .int .i64 t, .int .i64 y]]) ?_ rfl ⟨rfl, HBD.out⟩
    simp [results, Try.results13, go_sem, r0, r1, r2]
theorem rput_any (s : St) (t : Int) (w : World) :
    Calls Try.prog 13 #[.agg #[.int .i64 s.1, .int .i64 s.2.1, .int .i64 s.2.2], .int .i64 t] w fun e w' => e = .returned (.tuple #[.string (bstr (putS s t)), .agg #[.int .i64 (aftS s t).1, .int .i64 (aftS s t).2.1, .int .i64 (aftS s t).2.2]]) ∧ Below w.heap.size w w' := by
  by_cases h0 : s.1 = 0
  · exact rput_first s t w h0
  · have h4 := cls_le (chg s t)
    have : cls (chg s t) = 0 ∨ cls (chg s t) = 1 ∨ cls (chg s t) = 2 ∨ cls (chg s t) = 3 ∨ cls (chg s t) = 4 := by omega
    rcases this with h | h | h | h | h
    · exact rput_0 s t w h0 h
    · exact rput_1 s t w h0 h
    · exact rput_2 s t w h0 h
    · exact rput_3 s t w h0 h
    · exact rput_4 s t w h0 h
end Go.Proofs.Ytdnipfkpfdglnaa.StW
