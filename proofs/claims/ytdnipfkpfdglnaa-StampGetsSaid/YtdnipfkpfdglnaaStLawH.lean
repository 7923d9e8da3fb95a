/-
  StampGets: THE WALK.
-/
import Derived.Test.YtdnipfkpfdglnaaStRefH
import Derived.Test.YtdnipfkpfdglnaaStLawB
import Derived.Deep.RegionHeld3
namespace Go.Proofs.Ytdnipfkpfdglnaa.StW
set_option linter.unusedVariables false
open Go.RowKit Go.Shelf BitsM BitsW StM
theorem sameRt_self2 (a b c : Int) : sameRt a a b b c c = true := by unfold sameRt; simp
theorem sameSt_self (a b c : Int) : sameSt a a b b c c = true := by unfold sameSt; simp
/-- What the program's Get tells, by the document's. -/
theorem gotS_ref (S : List Bool) (p : Nat) (s : St) (hs : okSt s) (hp : p ≤ S.length) :
    (gotS S p s).1 = (refG (S.drop p) s).1 ∧ (gotS S p s).2.1 = (refG (S.drop p) s).2.2 ∧ (refG (S.drop p) s).2.1 = S.drop (gotS S p s).2.2 ∧ (gotS S p s).2.2 ≤ S.length ∧ ((refG (S.drop p) s).2.2 = false → (refG (S.drop p) s).1 = s) := by
  have hle := gotS_le (S := S) (p := p) hs hp
  unfold gotS refG at *
  cases h : getS (S.drop p) s with
  | none => exact ⟨rfl, rfl, rfl, by rw [h] at hle; exact hle, fun _ => rfl⟩
  | some x =>
    obtain ⟨t, k⟩ := x
    refine ⟨rfl, rfl, by simp only [List.drop_drop], by rw [h] at hle; exact hle, fun h => by cases h⟩
set_option maxRecDepth 20000 in
set_option maxHeartbeats 8000000 in
theorem stampGets_all (B : ByteArray) (n : Nat) (s : St) (w : World) (hB : B.size ≤ maxLen) (hn : n ≤ 255) (hs : okSt s) :
    Calls Try.prog 4 #[.string B, .int .u8 (n : Int), .agg #[.int .i64 s.1, .int .i64 s.2.1, .int .i64 s.2.2]] w fun e w' => e = .returned (.bool true) ∧ Below w.heap.size w w' := by
  obtain ⟨m, hm⟩ : ∃ m, n % 8 = m := ⟨_, rfl⟩
  have hmi : (n : Int) % 8 = (m : Int) := by omega
  have hm8 : m < 8 := by omega
  have hB' : B.size ≤ 9223372036854775807 := hB
  have HOK := Lib.hid hs
  clear hm hB hs
  obtain ⟨N, T, D⟩ := s
  simp only []
  have HB0 : Hid (Below w.heap.size w (w.alloc (StObj (N, T, D))) ∧ StAt (w.alloc (StObj (N, T, D))) w.heap.size (N, T, D)) := Lib.hid (And.intro ((Below.refl _ _).alloc (Nat.le_refl _) _) (heap_alloc_new w _))
  go_enter Try.func4, Try.ntmps4
  go_wp2_with fail
  change Calls _ _ _ (w.alloc (StObj (N, T, D))) _
  obtain ⟨w0, hw0⟩ : ∃ w0, w.alloc (StObj (N, T, D)) = w0 := ⟨_, rfl⟩
  rw [hw0] at HB0 ⊢
  clear hw0
  refine (works_any _).mono ?_
  rintro e w1 ⟨rfl, hb1⟩
  have HB1 := Lib.hid (later HB0.out.1 hb1)
  have HS1 : Hid (StAt w1 w.heap.size (N, T, D)) := Lib.hid ((hb1.block _ (Array.getElem?_eq_some_iff.1 HB0.out.2).1).trans HB0.out.2)
  clear hb1 HB0
  go_wp2_with fail
  refine (newReader_any _ _).mono ?_
  rintro e w2 ⟨rfl, hw2, hb2, hz2⟩
  have hst : StAt w2 w.heap.size (N, T, D) := (hb2.block _ (Array.getElem?_eq_some_iff.1 HS1.out).1).trans HS1.out
  have hlt2 : w.heap.size < w1.heap.size := (Array.getElem?_eq_some_iff.1 HS1.out).1
  have c0 := hst.c0
  have c1 := hst.c1
  have c2 := hst.c2
  simp only [] at c0 c1 c2
  have HB2 := Lib.hid (And.intro (later HB1.out hb2) hlt2)
  have HR2 := Lib.hid (RM.start hw2)
  have HS2 := Lib.hid hst
  clear hw2 hb2 hz2 hst hlt2
  by_cases b60 : 60 < B.size
  · go_wp2_with fail
    go_ret
    exact ⟨rfl, HB2.out.1⟩
  by_cases b0 : B.size = 0
  · go_wp2_with fail
    go_ret
    exact ⟨rfl, HB2.out.1⟩
  by_cases hN : 1099511627776 < N
  · go_wp2_with fail
    go_ret
    exact ⟨rfl, HB2.out.1⟩
  have hm8' : m ≤ 8 * B.size := by omega
  have hb00 : ((B.size : Int) == 0) = false := by rw [beq_eq_false_iff_ne]; omega
  go_wp2_with fail
  refine (HR2.out.get_some m (by omega) (by omega) (by omega)).mono ?_
  rintro e w3 ⟨rfl, r3⟩
  rw [Nat.zero_add] at r3
  have hst3 : StAt w3 w.heap.size (N, T, D) := (r3.old _ (Array.getElem?_eq_some_iff.1 HS2.out).1 (by have := HB2.out.2; omega)).trans HS2.out
  have d0 := hst3.c0
  have d1 := hst3.c1
  have d2 := hst3.c2
  simp only [] at d0 d1 d2
  obtain ⟨S, hS⟩ : ∃ S, unpack B.data.toList = S := ⟨_, rfl⟩
  have hSl : S.length = 8 * B.size := by rw [← hS, unpack_length]; simp
  have HGT := Lib.hid (get_time w1.heap.size B m (N, T, D) w3 r3.rd (by omega) hm8')
  have HRG := Lib.hid (fun W => rget_any (S.drop m) (N, T, D) W HOK.out (by rw [List.length_drop]; omega))
  have HOF := Lib.hid (fun W => rof_any B W (by omega))
  have hgr := gotS_ref S m (N, T, D) HOK.out (by omega)
  rw [hS] at HGT HOF
  obtain ⟨⟨⟨x, y, z⟩, ok, p⟩, hG⟩ : ∃ G, gotS S m (N, T, D) = G := ⟨_, rfl⟩
  obtain ⟨⟨⟨x', y', z'⟩, b2, ok'⟩, hG'⟩ : ∃ G, refG (S.drop m) (N, T, D) = G := ⟨_, rfl⟩
  rw [hG] at HGT hgr
  rw [hG'] at HRG hgr
  simp only [Prod.mk.injEq] at hgr HGT HRG
  obtain ⟨⟨rfl, rfl, rfl⟩, rfl, rfl, hpS, hno⟩ := hgr
  rw [hSl] at hpS
  have HR3 := Lib.hid r3
  have HS3 := Lib.hid hst3
  have HNO := Lib.hid hno
  clear hG hG' hS r3 hst3 c0 c1 c2 hno
  go_wp2_with fail
  refine HGT.out.mono ?_
  rintro e w4 ⟨rfl, hread⟩
  have r4 := HR3.out.got hread
  have hst4 : StAt w4 w.heap.size (N, T, D) := (r4.old _ (Array.getElem?_eq_some_iff.1 HS2.out).1 (by have := HB2.out.2; omega)).trans HS2.out
  clear hread d0 d1 d2
  have HR4 := Lib.hid r4
  have HS4 := Lib.hid hst4
  clear r4 hst4 HGT
  go_wp2_with fail
  obtain ⟨w5, hw5⟩ : ∃ w5, w4.alloc (.cells #[.int .i64 x, .int .i64 y, .int .i64 z] 23 (0, 0)) = w5 := ⟨_, rfl⟩
  have hb45 : Below w4.heap.size w4 w5 := by rw [← hw5]; exact (Below.refl _ _).alloc (Nat.le_refl _) _
  have hw45 : w5.heap.size = w4.heap.size + 1 := by rw [← hw5]; simp
  have s5 : (RM w2 w5 w1.heap.size B p [] ∧ StAt w5 w.heap.size (N, T, D) ∧ StAt w5 w4.heap.size (x, y, z)) := ⟨HR4.out.below hb45, (hb45.block _ (Array.getElem?_eq_some_iff.1 HS4.out).1).trans HS4.out, by rw [← hw5]; exact heap_alloc_new w4 _⟩
  try rw [hw5]
  have hq0 : w.heap.size < w1.heap.size := HB2.out.2
  have hq1 : w1.heap.size < w4.heap.size := HR4.out.lt
  have hq2 : w2.heap.size ≤ w4.heap.size := HR4.out.size
  clear hw5 hb45
  have K2 := Lib.hid (fun (W : World) (h : (RM w2 W w1.heap.size B p [] ∧ StAt W w.heap.size (N, T, D) ∧ StAt W w4.heap.size (x, y, z))) => (⟨h, h.2.1.c0, h.2.1.c1, h.2.1.c2, h.2.2.c0, h.2.2.c1, h.2.2.c2⟩ : (RM w2 W w1.heap.size B p [] ∧ StAt W w.heap.size (N, T, D) ∧ StAt W w4.heap.size (x, y, z)) ∧ W.cell? ⟨w.heap.size, 0, none⟩ = some (.int .i64 N) ∧ W.cell? ⟨w.heap.size, 1, none⟩ = some (.int .i64 T) ∧ W.cell? ⟨w.heap.size, 2, none⟩ = some (.int .i64 D) ∧ W.cell? ⟨w4.heap.size, 0, none⟩ = some (.int .i64 x) ∧ W.cell? ⟨w4.heap.size, 1, none⟩ = some (.int .i64 y) ∧ W.cell? ⟨w4.heap.size, 2, none⟩ = some (.int .i64 z)))
  have K := Lib.hid (fun (W W' : World) (h : (RM w2 W w1.heap.size B p [] ∧ StAt W w.heap.size (N, T, D) ∧ StAt W w4.heap.size (x, y, z))) (hb' : Below W.heap.size W W') =>
    K2.out W' ⟨h.1.below hb', (hb'.block _ (Array.getElem?_eq_some_iff.1 h.2.1).1).trans h.2.1, (hb'.block _ (Array.getElem?_eq_some_iff.1 h.2.2).1).trans h.2.2⟩)
  have K4 := Lib.hid (fun (W : World) (g : Nat) (a b' c' : Value) (h : (RM w2 W w1.heap.size B p [] ∧ StAt W w.heap.size (N, T, D) ∧ StAt W w4.heap.size (x, y, z))) (hz : RtAt W g (0, 0, 0)) (hg : w5.heap.size ≤ g) =>
    have ho : ∀ j, j ≠ g → (((W.setCell ⟨g, 0, none⟩ a).setCell ⟨g, 1, none⟩ b').setCell ⟨g, 2, none⟩ c').heap[j]? = W.heap[j]? := fun j hj => (heap_setCell_other _ _ _ _ hj).trans ((heap_setCell_other _ _ _ _ hj).trans (heap_setCell_other _ _ _ _ hj))
    K2.out (((W.setCell ⟨g, 0, none⟩ a).setCell ⟨g, 1, none⟩ b').setCell ⟨g, 2, none⟩ c')
      ⟨⟨(ho _ (by omega)).trans h.1.rd, fun x hx => by simp at hx, fun k hk h3 => (ho k (by omega)).trans (h.1.old k hk h3), by simp; exact h.1.size, h.1.os, h.1.tape, h.1.output⟩,
        (ho _ (by omega)).trans h.2.1, (ho _ (by omega)).trans h.2.2⟩)
  clear hw45
  have hS0 := K.out _ _ s5 (below_self_drew w5)
  have K5 := Lib.hid (fun (ob : Obj) => K.out w5 (w5.alloc ob).drew s5 (show Below w5.heap.size w5 (w5.alloc ob).drew from ((Below.refl _ _).alloc (Nat.le_refl _) ob).trans ⟨rfl, rfl, rfl, Nat.le_refl _, fun _ _ => rfl⟩))
  have K6 := Lib.hid (fun (W : World) (ob : Obj) (h : (RM w2 W w1.heap.size B p [] ∧ StAt W w.heap.size (N, T, D) ∧ StAt W w4.heap.size (x, y, z))) => K.out W (W.alloc ob) h ((Below.refl _ _).alloc (Nat.le_refl _) ob))
  have K3 := Lib.hid (fun (W9 W10 : World) (h9 : Below w5.drew.heap.size w5.drew W9) (h10 : Below W9.heap.size W9 W10) (ob : Obj) => K.out w5.drew (W10.alloc ob) hS0.1 ((later h9 h10).trans (((Below.refl _ _).alloc (Nat.le_refl _) ob).mono (later h9 h10).size)))
  have ZZ := Lib.hid (fun (W : World) (g : Nat) (hz : RtAt W g (0, 0, 0)) => (⟨hz.c0, hz.c1, hz.c2, frozen_of_row W _ 0 _ _ hz, frozen_of_row W _ 1 _ _ hz, frozen_of_row W _ 2 _ _ hz⟩ : W.cell? ⟨g, 0, none⟩ = some (.int .i64 0) ∧ W.cell? ⟨g, 1, none⟩ = some (.int .i64 0) ∧ W.cell? ⟨g, 2, none⟩ = some (.int .i64 0) ∧ W.frozen? ⟨g, 0, none⟩ = false ∧ W.frozen? ⟨g, 1, none⟩ = false ∧ W.frozen? ⟨g, 2, none⟩ = false))
  have HLZ := Lib.hid ((lof_any (N, T, D) (w5.alloc (.cells #[.int .i64 0, .int .i64 0, .int .i64 0] 28 (0, 0))).drew).mono fun e W9 h =>
    have hz : RtAt W9 w5.heap.size (0, 0, 0) := RtAt.later (W := (w5.alloc (.cells #[.int .i64 0, .int .i64 0, .int .i64 0] 28 (0, 0))).drew) (heap_alloc_new w5 _) h.2
    (⟨h.1, h.2, hz, Nat.le_refl _, ZZ.out _ _ hz⟩ : (e = .returned (.agg #[.int .i64 N, .int .i64 T, .int .i64 D]) ∧ Below (w5.alloc (.cells #[.int .i64 0, .int .i64 0, .int .i64 0] 28 (0, 0))).drew.heap.size (w5.alloc (.cells #[.int .i64 0, .int .i64 0, .int .i64 0] 28 (0, 0))).drew W9 ∧ RtAt W9 w5.heap.size (0, 0, 0) ∧ w5.heap.size ≤ w5.heap.size ∧ W9.cell? ⟨w5.heap.size, 0, none⟩ = some (.int .i64 0) ∧ W9.cell? ⟨w5.heap.size, 1, none⟩ = some (.int .i64 0) ∧ W9.cell? ⟨w5.heap.size, 2, none⟩ = some (.int .i64 0) ∧ W9.frozen? ⟨w5.heap.size, 0, none⟩ = false ∧ W9.frozen? ⟨w5.heap.size, 1, none⟩ = false ∧ W9.frozen? ⟨w5.heap.size, 2, none⟩ = false)))
  have HLO := Lib.hid (fun W => lof_any (N, T, D) W)
  have HGZ := Lib.hid (fun W (hz : RtAt W w5.heap.size (0, 0, 0)) => (HRG.out W).mono fun e W9 h =>
    (⟨h.1, h.2, hz.later h.2, ZZ.out _ _ (hz.later h.2)⟩ : (e = .returned (.tuple #[.agg #[.int .i64 x, .int .i64 y, .int .i64 z], .string (bstr (List.drop p S)), .bool ok]) ∧ Below W.heap.size W W9 ∧ RtAt W9 w5.heap.size (0, 0, 0) ∧ W9.cell? ⟨w5.heap.size, 0, none⟩ = some (.int .i64 0) ∧ W9.cell? ⟨w5.heap.size, 1, none⟩ = some (.int .i64 0) ∧ W9.cell? ⟨w5.heap.size, 2, none⟩ = some (.int .i64 0) ∧ W9.frozen? ⟨w5.heap.size, 0, none⟩ = false ∧ W9.frozen? ⟨w5.heap.size, 1, none⟩ = false ∧ W9.frozen? ⟨w5.heap.size, 2, none⟩ = false)))
  have HGA := Lib.hid (fun (W : World) (hsz : Below w5.drew.heap.size w5.drew W) => (HRG.out (W.alloc (.cells #[.int .i64 0, .int .i64 0, .int .i64 0] 28 (0, 0)))).mono fun e W9 h =>
    have hz : RtAt W9 W.heap.size (0, 0, 0) := RtAt.later (W := W.alloc (.cells #[.int .i64 0, .int .i64 0, .int .i64 0] 28 (0, 0))) (heap_alloc_new W _) h.2
    (⟨h.1, h.2, hz, hsz.size, ZZ.out _ _ hz⟩ : (e = .returned (.tuple #[.agg #[.int .i64 x, .int .i64 y, .int .i64 z], .string (bstr (List.drop p S)), .bool ok]) ∧ Below (W.alloc (.cells #[.int .i64 0, .int .i64 0, .int .i64 0] 28 (0, 0))).heap.size (W.alloc (.cells #[.int .i64 0, .int .i64 0, .int .i64 0] 28 (0, 0))) W9 ∧ RtAt W9 W.heap.size (0, 0, 0) ∧ w5.heap.size ≤ W.heap.size ∧ W9.cell? ⟨W.heap.size, 0, none⟩ = some (.int .i64 0) ∧ W9.cell? ⟨W.heap.size, 1, none⟩ = some (.int .i64 0) ∧ W9.cell? ⟨W.heap.size, 2, none⟩ = some (.int .i64 0) ∧ W9.frozen? ⟨W.heap.size, 0, none⟩ = false ∧ W9.frozen? ⟨W.heap.size, 1, none⟩ = false ∧ W9.frozen? ⟨W.heap.size, 2, none⟩ = false)))
  have hsm := slice_from (P := Try.prog) Try.underlying9 (bstr S) (m : Int) m rfl (by rw [bstr_size]; omega)
  rw [bstr_extract, bstr_size, List.take_of_length_le (by rw [List.length_drop]; omega)] at hsm
  clear s5
  go_region_held3 (fun W : World => (RM w2 W w1.heap.size B p [] ∧ StAt W w.heap.size (N, T, D) ∧ StAt W w4.heap.size (x, y, z)) ∧ W.cell? ⟨w.heap.size, 0, none⟩ = some (.int .i64 N) ∧ W.cell? ⟨w.heap.size, 1, none⟩ = some (.int .i64 T) ∧ W.cell? ⟨w.heap.size, 2, none⟩ = some (.int .i64 D) ∧ W.cell? ⟨w4.heap.size, 0, none⟩ = some (.int .i64 x) ∧ W.cell? ⟨w4.heap.size, 1, none⟩ = some (.int .i64 y) ∧ W.cell? ⟨w4.heap.size, 2, none⟩ = some (.int .i64 z))
    (first | exact hS0 | exact K5.out _ | exact K4.out _ _ _ _ _ (And.left (by assumption)) (by assumption) (by assumption) | exact K.out _ _ (And.left (by assumption)) (Below.refl _ _) | exact K.out _ _ (And.left (by assumption)) (by assumption) | exact K6.out _ _ (And.left (by assumption)) | exact K3.out _ _ (by assumption) (by assumption) _)
    (first
      | (go_at_call 23; refine (HOF.out _).mono ?_; rintro e w9 ⟨rfl, rfl⟩)
      | (go_at_call 14; refine HLZ.out.mono ?_; rintro e w9 ⟨rfl, hb9, hz9, hg9, z0, z1, z2, y0, y1, y2⟩)
      | (go_at_call 14; refine (HLO.out _).mono ?_; rintro e w9 ⟨rfl, hb9⟩)
      | (go_at_call 22; refine (HGZ.out _ (by assumption)).mono ?_; rintro e w10 ⟨rfl, hb10, hz10, z0, z1, z2, y0, y1, y2⟩)
      | (go_at_call 22; refine (HGA.out _ (by assumption)).mono ?_; rintro e w10 ⟨rfl, hb10, hz10, hg10, z0, z1, z2, y0, y1, y2⟩)
      | (go_at_call 22; refine (HRG.out _).mono ?_; rintro e w10 ⟨rfl, hb10⟩))
  all_goals rename_i hh
  all_goals first
    | (have ht := set3_row (.int .i64 x) (.int .i64 y) (.int .i64 z) hz10
       generalize ((w10.setCell ⟨w5.heap.size, 0, none⟩ (.int .i64 x)).setCell ⟨w5.heap.size, 1, none⟩ (.int .i64 y)).setCell ⟨w5.heap.size, 2, none⟩ (.int .i64 z) = wf at hh ht ⊢
       clear hz10 hb10 z0 z1 z2 y0 y1 y2 hz9 hb9 hg9
       obtain ⟨g, hg⟩ : ∃ g, w5.heap.size = g := ⟨_, rfl⟩
       rw [hg] at ht ⊢
       clear hg)
    | (have ht := set3_row (.int .i64 x) (.int .i64 y) (.int .i64 z) hz10
       generalize ((w10.setCell ⟨w9.heap.size, 0, none⟩ (.int .i64 x)).setCell ⟨w9.heap.size, 1, none⟩ (.int .i64 y)).setCell ⟨w9.heap.size, 2, none⟩ (.int .i64 z) = wf at hh ht ⊢
       clear hz10 hb10 z0 z1 z2 y0 y1 y2 hb9 hg10
       obtain ⟨g, hg⟩ : ∃ g, w9.heap.size = g := ⟨_, rfl⟩
       rw [hg] at ht ⊢
       clear hg)
    | (have ht := heap_alloc_new w10 (.cells #[.int .i64 x, .int .i64 y, .int .i64 z] 28 (0, 0))
       generalize w10.alloc (.cells #[.int .i64 x, .int .i64 y, .int .i64 z] 28 (0, 0)) = wf at hh ht ⊢
       clear hb10 hb9
       obtain ⟨g, hg⟩ : ∃ g, w10.heap.size = g := ⟨_, rfl⟩
       rw [hg] at ht ⊢
       clear hg)
  all_goals
    have ht : RtAt wf g (x, y, z) := ht
    have HF := Lib.hid (hh.1.1.since HB2.out.1 (Nat.le_of_lt HB2.out.2))
    have HT := Lib.hid (And.intro hh.1.1 (And.intro hh.1.2.2 ht))
    obtain ⟨-, c0, c1, c2, d0, d1, d2⟩ := hh
    have k0 := ht.c0
    have k1 := ht.c1
    have k2 := ht.c2
    simp only [] at k0 k1 k2
    clear ht K K2 K3 K4 K5 K6 ZZ HLZ HLO HGZ HGA hS0 hsm HOF
    cases ok with
    | false =>
      obtain ⟨rfl, rfl, rfl⟩ := HNO.out rfl
      have hqe := eql_St x x y y z z
      rw [sameSt_self] at hqe
      have hqg := guard_St
      clear HNO HT k0 k1 k2
      go_wp2
      go_ret
      exact ⟨rfl, HF.out⟩
    | true =>
      have K := Lib.hid (fun (W W' : World) (h : (RM w2 W w1.heap.size B p [] ∧ StAt W w4.heap.size (x, y, z) ∧ RtAt W g (x, y, z))) (hb' : Below W.heap.size W W') =>
        have g1 : StAt W' w4.heap.size (x, y, z) := (hb'.block _ (Array.getElem?_eq_some_iff.1 h.2.1).1).trans h.2.1
        have g2 : RtAt W' g (x, y, z) := h.2.2.later hb'
        (⟨⟨h.1.below hb', g1, g2⟩, g1.c0, g1.c1, g1.c2, g2.c0, g2.c1, g2.c2⟩ : (RM w2 W' w1.heap.size B p [] ∧ StAt W' w4.heap.size (x, y, z) ∧ RtAt W' g (x, y, z)) ∧ W'.cell? ⟨w4.heap.size, 0, none⟩ = some (.int .i64 x) ∧ W'.cell? ⟨w4.heap.size, 1, none⟩ = some (.int .i64 y) ∧ W'.cell? ⟨w4.heap.size, 2, none⟩ = some (.int .i64 z) ∧ W'.cell? ⟨g, 0, none⟩ = some (.int .i64 x) ∧ W'.cell? ⟨g, 1, none⟩ = some (.int .i64 y) ∧ W'.cell? ⟨g, 2, none⟩ = some (.int .i64 z)))
      have hS0 := K.out _ _ HT.out (below_self_drew wf)
      have HLO := Lib.hid (fun W => lof_any (x, y, z) W)
      have HLF := Lib.hid (fun W (h : (RM w2 W w1.heap.size B p [] ∧ StAt W w4.heap.size (x, y, z) ∧ RtAt W g (x, y, z))) => left_below w1.heap.size B p W h.1.rd (by omega) hpS)
      have hzz : (bstr (List.drop p S)).size = 8 * B.size - p := by rw [bstr_size, List.length_drop, hSl]
      have hqe := eql_Rt x x y y z z
      rw [sameRt_self2] at hqe
      have hqg := guard_Rt
      obtain ⟨q, hq⟩ : ∃ q, 8 * B.size - p = q := ⟨_, rfl⟩
      rw [hq] at HLF hzz
      clear hq HNO HT k0 k1 k2 c0 c1 c2 d0 d1 d2
      go_wp2_with fail
      go_region_held3 (fun W : World => (RM w2 W w1.heap.size B p [] ∧ StAt W w4.heap.size (x, y, z) ∧ RtAt W g (x, y, z)) ∧ W.cell? ⟨w4.heap.size, 0, none⟩ = some (.int .i64 x) ∧ W.cell? ⟨w4.heap.size, 1, none⟩ = some (.int .i64 y) ∧ W.cell? ⟨w4.heap.size, 2, none⟩ = some (.int .i64 z) ∧ W.cell? ⟨g, 0, none⟩ = some (.int .i64 x) ∧ W.cell? ⟨g, 1, none⟩ = some (.int .i64 y) ∧ W.cell? ⟨g, 2, none⟩ = some (.int .i64 z))
        (first | exact hS0 | exact K.out _ _ (And.left (by assumption)) (Below.refl _ _) | exact K.out _ _ (And.left (by assumption)) (by assumption))
        (first
          | (go_at_call 14; refine (HLO.out _).mono ?_; rintro e w9 ⟨rfl, hb9⟩)
          | (go_at_call 24; refine (HLF.out _ (And.left (by assumption))).mono ?_; rintro e w9 ⟨rfl, hb9, -⟩))
      rename_i hh
      have HF2 := Lib.hid (hh.1.1.since HB2.out.1 (Nat.le_of_lt HB2.out.2))
      clear hh
      go_wp2
      go_ret
      exact ⟨rfl, HF2.out⟩
end Go.Proofs.Ytdnipfkpfdglnaa.StW
