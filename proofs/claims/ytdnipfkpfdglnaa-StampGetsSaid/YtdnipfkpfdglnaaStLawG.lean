/-
  StampPuts: THE WALK.
-/
import Derived.Test.YtdnipfkpfdglnaaStRefH
import Derived.Test.YtdnipfkpfdglnaaStLawB
import Derived.Deep.RegionHeld3
namespace Go.Proofs.Ytdnipfkpfdglnaa.StW
open Go.RowKit Go.Shelf BitsM BitsW StM
theorem sameRt_self (a b c : Int) : sameRt a a b b c c = true := by unfold sameRt; simp
set_option maxRecDepth 20000 in
set_option maxHeartbeats 8000000 in
theorem stampPuts_all (s : St) (t : Int) (w : World) :
    Calls Try.prog 3 #[.agg #[.int .i64 s.1, .int .i64 s.2.1, .int .i64 s.2.2], .int .i64 t] w fun e w' => e = .returned (.bool true) ∧ Below w.heap.size w w' := by
  obtain ⟨N, T, D⟩ := s
  simp only []
  have HB0 : Hid (Below w.heap.size w (w.alloc (StObj (N, T, D))) ∧ StAt (w.alloc (StObj (N, T, D))) w.heap.size (N, T, D)) := Lib.hid (And.intro ((Below.refl _ _).alloc (Nat.le_refl _) _) (heap_alloc_new w _))
  go_enter Try.func3, Try.ntmps3
  go_wp2_with fail
  change Calls _ _ _ (w.alloc (StObj (N, T, D))) _
  obtain ⟨w0, hw0⟩ : ∃ w0, w.alloc (StObj (N, T, D)) = w0 := ⟨_, rfl⟩
  rw [hw0] at HB0 ⊢
  clear hw0
  refine (works_any _).mono ?_
  rintro e w1 ⟨rfl, hb1⟩
  have HB1 := Lib.hid (later HB0.out.1 hb1)
  have HS1 : Hid (StAt w1 w.heap.size (N, T, D)) := Lib.hid ((hb1.block _ (Array.getElem?_eq_some_iff.1 HB0.out.2).1).trans HB0.out.2)
  clear hb1 HB0
  go_wp2_with fail
  refine (newWriter_any _).mono ?_
  rintro e w2 ⟨rfl, hw2, hb2, hz2⟩
  have hst : StAt w2 w.heap.size (N, T, D) := (hb2.block _ (Array.getElem?_eq_some_iff.1 HS1.out).1).trans HS1.out
  have hlt2 : w.heap.size < w1.heap.size := (Array.getElem?_eq_some_iff.1 HS1.out).1
  have c0 := hst.c0
  have c1 := hst.c1
  have c2 := hst.c2
  simp only [] at c0 c1 c2
  have HB2 := Lib.hid (And.intro (later HB1.out hb2) (Nat.le_of_lt hlt2))
  have HW2 := Lib.hid hw2
  have HS2 := Lib.hid hst
  clear hw2 hb2 hz2 hst hlt2
  by_cases hN : 1099511627776 < N
  · go_wp2_with fail
    go_ret
    exact ⟨rfl, HB2.out.1⟩
  have HP2 := Lib.hid (PM.start HW2.out)
  go_wp2_with fail
  refine (PM.time HP2.out (by simp) (N, T, D) t).mono ?_
  rintro e w3 ⟨rfl, p3⟩
  rw [List.nil_append] at p3
  have hst3 : StAt w3 w.heap.size (N, T, D) := (p3.old _ (Array.getElem?_eq_some_iff.1 HS2.out).1 (by have := HB2.out.2; have h2 := (Array.getElem?_eq_some_iff.1 HS1.out).1; omega) (fun e => by cases e)).trans HS2.out
  have HC := Lib.hid (cost_any (N, T, D) t)
  have HPR := Lib.hid (rput_any (N, T, D) t)
  have hpl := putS_len (N, T, D) t
  have HPB := Lib.hid (fun W => rbytes_any (putS (N, T, D) t) W (by omega))
  obtain ⟨P, hP⟩ : ∃ P, putS (N, T, D) t = P := ⟨_, rfl⟩
  obtain ⟨s', hs'⟩ : ∃ s', aftS (N, T, D) t = s' := ⟨_, rfl⟩
  rw [hP] at HC HPR HPB p3 hpl
  rw [hs'] at HPR ⊢
  obtain ⟨x, y, z⟩ := s'
  clear hP hs'
  have hst4 : StAt (w3.alloc (.cells #[.int .i64 x, .int .i64 y, .int .i64 z] 23 (0, 0))) w.heap.size (N, T, D) := (Below.heap_alloc w3 _ _ (Array.getElem?_eq_some_iff.1 hst3).1).trans hst3
  have ht4 : StAt (w3.alloc (.cells #[.int .i64 x, .int .i64 y, .int .i64 z] 23 (0, 0))) w3.heap.size (x, y, z) := heap_alloc_new w3 _
  have d0 := hst3.c0
  have d1 := hst3.c1
  have d2 := hst3.c2
  have e0 := hst4.c0
  have e1 := hst4.c1
  have e2 := hst4.c2
  simp only [] at d0 d1 d2 e0 e1 e2
  have HP3 : Hid (PM w2 (w3.alloc (.cells #[.int .i64 x, .int .i64 y, .int .i64 z] 23 (0, 0))) w1.heap.size none P []) := Lib.hid (p3.below ((Below.refl _ _).alloc (Nat.le_refl _) _))
  have HS3 := Lib.hid (And.intro hst4 ht4)
  clear p3 hst3 c0 c1 c2 hst4 ht4
  go_wp2_with fail
  refine (lof_any (N, T, D) _).mono ?_
  rintro e w5 ⟨rfl, hb5⟩
  clear d0 d1 d2 e0 e1 e2
  generalize w3.alloc (.cells #[.int .i64 x, .int .i64 y, .int .i64 z] 23 (0, 0)) = w4 at hb5 HP3 HS3
  have HP5 := Lib.hid (HP3.out.below hb5)
  have HS5 : Hid (StAt w5 w.heap.size (N, T, D) ∧ StAt w5 w3.heap.size (x, y, z)) := Lib.hid ⟨(hb5.block _ (Array.getElem?_eq_some_iff.1 HS3.out.1).1).trans HS3.out.1, (hb5.block _ (Array.getElem?_eq_some_iff.1 HS3.out.2).1).trans HS3.out.2⟩
  clear hb5 HP3 HS3
  go_wp2_with fail
  refine (HPR.out _).mono ?_
  rintro e w6 ⟨rfl, hb6⟩
  have HP6 := Lib.hid (HP5.out.below hb6)
  have HS6 : Hid (StAt w6 w.heap.size (N, T, D) ∧ StAt w6 w3.heap.size (x, y, z)) := Lib.hid ⟨(hb6.block _ (Array.getElem?_eq_some_iff.1 HS5.out.1).1).trans HS5.out.1, (hb6.block _ (Array.getElem?_eq_some_iff.1 HS5.out.2).1).trans HS5.out.2⟩
  clear hb6 HP5 HS5
  go_wp2_with fail
  obtain ⟨w7, hw7⟩ : ∃ w7, w6.alloc (.cells #[.int .i64 x, .int .i64 y, .int .i64 z] 28 (0, 0)) = w7 := ⟨_, rfl⟩
  have hb67 : Below w6.heap.size w6 w7 := by rw [← hw7]; exact (Below.refl _ _).alloc (Nat.le_refl _) _
  have hp7 := HP6.out.below hb67
  have ht7 : RtAt w7 w6.heap.size (x, y, z) := by rw [← hw7]; exact heap_alloc_new w6 _
  have hs7 : StAt w7 w.heap.size (N, T, D) ∧ StAt w7 w3.heap.size (x, y, z) := ⟨(hb67.block _ (Array.getElem?_eq_some_iff.1 HS6.out.1).1).trans HS6.out.1, (hb67.block _ (Array.getElem?_eq_some_iff.1 HS6.out.2).1).trans HS6.out.2⟩
  try rw [hw7]
  clear hb67 hw7 HP6 HS6
  have K := Lib.hid (fun (W W' : World) (h : PM w2 W w1.heap.size none P [] ∧ StAt W w.heap.size (N, T, D) ∧ StAt W w3.heap.size (x, y, z) ∧ RtAt W w6.heap.size (x, y, z)) (hb' : Below W.heap.size W W') =>
    have g1 : StAt W' w.heap.size (N, T, D) := (hb'.block _ (Array.getElem?_eq_some_iff.1 h.2.1).1).trans h.2.1
    have g2 : StAt W' w3.heap.size (x, y, z) := (hb'.block _ (Array.getElem?_eq_some_iff.1 h.2.2.1).1).trans h.2.2.1
    have g3 : RtAt W' w6.heap.size (x, y, z) := h.2.2.2.later hb'
    (⟨⟨h.1.below hb', g1, g2, g3⟩, g1.c0, g1.c1, g1.c2, g2.c0, g2.c1, g2.c2, g3.c0, g3.c1, g3.c2⟩ :
      (PM w2 W' w1.heap.size none P [] ∧ StAt W' w.heap.size (N, T, D) ∧ StAt W' w3.heap.size (x, y, z) ∧ RtAt W' w6.heap.size (x, y, z)) ∧
      W'.cell? ⟨w.heap.size, 0, none⟩ = some (.int .i64 N) ∧ W'.cell? ⟨w.heap.size, 1, none⟩ = some (.int .i64 T) ∧ W'.cell? ⟨w.heap.size, 2, none⟩ = some (.int .i64 D) ∧
      W'.cell? ⟨w3.heap.size, 0, none⟩ = some (.int .i64 x) ∧ W'.cell? ⟨w3.heap.size, 1, none⟩ = some (.int .i64 y) ∧ W'.cell? ⟨w3.heap.size, 2, none⟩ = some (.int .i64 z) ∧
      W'.cell? ⟨w6.heap.size, 0, none⟩ = some (.int .i64 x) ∧ W'.cell? ⟨w6.heap.size, 1, none⟩ = some (.int .i64 y) ∧ W'.cell? ⟨w6.heap.size, 2, none⟩ = some (.int .i64 z)))
  have hS0 := K.out _ _ ⟨hp7, hs7.1, hs7.2, ht7⟩ (below_self_drew w7)
  clear hp7 hs7 ht7
  have hpz := bstr_size P
  obtain ⟨q, hq⟩ : ∃ q, P.length = q := ⟨_, rfl⟩
  rw [hq] at hpz hpl HC
  obtain ⟨pb, hpb⟩ : ∃ pb, (⟨(pack P).toArray⟩ : ByteArray) = pb := ⟨_, rfl⟩
  rw [hpb] at HPB
  have HLN := Lib.hid (fun W (h : PM w2 W w1.heap.size none P [] ∧ StAt W w.heap.size (N, T, D) ∧ StAt W w3.heap.size (x, y, z) ∧ RtAt W w6.heap.size (x, y, z)) => hq ▸ h.1.len)
  have HBY := Lib.hid (fun W (h : PM w2 W w1.heap.size none P [] ∧ StAt W w.heap.size (N, T, D) ∧ StAt W w3.heap.size (x, y, z) ∧ RtAt W w6.heap.size (x, y, z)) => hpb ▸ h.1.bytes)
  have HLO := Lib.hid (fun W => lof_any (x, y, z) W)
  have hqe := eql_Rt x x y y z z
  rw [sameRt_self] at hqe
  have hqg := guard_Rt
  clear hq hpb
  go_region_held3 (fun W : World => (PM w2 W w1.heap.size none P [] ∧ StAt W w.heap.size (N, T, D) ∧ StAt W w3.heap.size (x, y, z) ∧ RtAt W w6.heap.size (x, y, z)) ∧
      W.cell? ⟨w.heap.size, 0, none⟩ = some (.int .i64 N) ∧ W.cell? ⟨w.heap.size, 1, none⟩ = some (.int .i64 T) ∧ W.cell? ⟨w.heap.size, 2, none⟩ = some (.int .i64 D) ∧
      W.cell? ⟨w3.heap.size, 0, none⟩ = some (.int .i64 x) ∧ W.cell? ⟨w3.heap.size, 1, none⟩ = some (.int .i64 y) ∧ W.cell? ⟨w3.heap.size, 2, none⟩ = some (.int .i64 z) ∧
      W.cell? ⟨w6.heap.size, 0, none⟩ = some (.int .i64 x) ∧ W.cell? ⟨w6.heap.size, 1, none⟩ = some (.int .i64 y) ∧ W.cell? ⟨w6.heap.size, 2, none⟩ = some (.int .i64 z))
    (first | exact hS0 | exact K.out _ _ (And.left (by assumption)) (Below.refl _ _) | exact K.out _ _ (And.left (by assumption)) (by assumption))
    (first
      | (go_at_call 15; refine (HBY.out _ (And.left (by assumption))).mono ?_; rintro e w9 ⟨rfl, rfl⟩)
      | (go_at_call 17; refine (HLN.out _ (And.left (by assumption))).mono ?_; rintro e w9 ⟨rfl, rfl⟩)
      | (go_at_call 16; refine (HPB.out _).mono ?_; rintro e w9 ⟨rfl, hb9⟩)
      | (go_at_call 14; refine (HLO.out _).mono ?_; rintro e w9 ⟨rfl, hb9⟩)
      | (go_at_call 18; refine (HC.out _).mono ?_; rintro e w9 ⟨rfl, hb9⟩))
  rename_i hh
  have HF := Lib.hid (hh.1.1.since HB2.out.1 HB2.out.2)
  clear hh
  go_wp2
  go_ret
  exact ⟨rfl, HF.out⟩
end Go.Proofs.Ytdnipfkpfdglnaa.StW
