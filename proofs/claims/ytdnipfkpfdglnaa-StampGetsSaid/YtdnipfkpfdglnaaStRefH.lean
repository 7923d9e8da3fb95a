/-
  alluviumref04.Get, behind the first time: THE WALK. (Printed by wip/gen/strefh.py.)
-/
import Derived.Test.YtdnipfkpfdglnaaStRefG
namespace Go.Proofs.Ytdnipfkpfdglnaa.StW
set_option linter.unusedVariables false
open Go.RowKit Go.Shelf BitsM BitsW StM
theorem ones_end_false {b : List Bool} {i : Nat} (hi : i < 4) (hl : i < b.length) (ht : b.take i = List.replicate i true) (hb : b[i]'hl = false) : ones b = i := by
  refine ones_of _ i (by omega) ht (.inr ?_)
  rw [List.head?_drop, List.getElem?_eq_getElem hl, hb]
  simp
theorem ones_end_len {b : List Bool} {i : Nat} (hi : i ≤ 4) (hl : b.length ≤ i) (ht : b.take i = List.replicate i true) : ones b = i := by
  refine ones_of _ i hi ht (.inr ?_)
  rw [List.head?_drop, List.getElem?_eq_none hl]
  simp
theorem take_next_true {b : List Bool} {i : Nat} (hl : i < b.length) (ht : b.take i = List.replicate i true) (hb : b[i]'hl = true) : b.take (i + 1) = List.replicate (i + 1) true := by
  rw [List.take_add_one, ht, List.getElem?_eq_getElem hl, hb, List.replicate_succ']
  rfl
set_option maxRecDepth 20000 in
set_option maxHeartbeats 8000000 in
theorem rget_more (b : List Bool) (s : St) (w : World) (h0 : ¬ s.1 = 0) (hs : okSt s) (hb : b.length ≤ 1099511627776) :
    Calls Try.prog 22 #[.string (bstr b), .agg #[.int .i64 s.1, .int .i64 s.2.1, .int .i64 s.2.2]] w fun e w' => e = .returned (.tuple #[.agg #[.int .i64 (refG b s).1.1, .int .i64 (refG b s).1.2.1, .int .i64 (refG b s).1.2.2], .string (bstr (refG b s).2.1), .bool (refG b s).2.2]) ∧ Below w.heap.size w w' := by
  obtain ⟨N, T, D⟩ := s
  have hb0 : (N == 0) = false := by simpa using h0
  have HOK := Lib.hid (And.intro hs h0)
  obtain ⟨wA, hwA⟩ : ∃ wA, (w.alloc (RtObj (N, T, D))).alloc (RtObj (0, 0, 0)) = wA := ⟨_, rfl⟩
  have hbA : Below w.heap.size w wA := by rw [← hwA]; exact ((Below.refl _ _).alloc (Nat.le_refl _) _).alloc (by simp) _
  have hst : RtAt wA w.heap.size (N, T, D) := by rw [← hwA]; exact (heap_past _ _ (by simp)).trans (heap_alloc_new w _)
  have hres : RtAt wA (w.heap.size + 1) (0, 0, 0) := by rw [← hwA]; exact heap_at _ _ (by simp)
  have c0 := hst.c0
  have c1 := hst.c1
  have c2 := hst.c2
  have HBwA := Lib.hid hbA
  have HRwA := Lib.hid hres
  have HSA := Lib.hid hst
  have d0 := hres.c0
  have d1 := hres.c1
  have d2 := hres.c2
  have f0 : wA.frozen? ⟨w.heap.size + 1, 0, none⟩ = false := frozen_of_row wA _ 0 _ _ hres
  have f1 : wA.frozen? ⟨w.heap.size + 1, 1, none⟩ = false := frozen_of_row wA _ 1 _ _ hres
  have f2 : wA.frozen? ⟨w.heap.size + 1, 2, none⟩ = false := frozen_of_row wA _ 2 _ _ hres
  simp only [] at c0 c1 c2 d0 d1 d2
  have hz := bstr_size b
  clear hst hbA hres
  change (w.alloc (.cells #[.int .i64 N, .int .i64 T, .int .i64 D] 28 (0, 0))).alloc (.cells #[.int .i64 0, .int .i64 0, .int .i64 0] 28 (0, 0)) = wA at hwA
  obtain ⟨l, hll⟩ : ∃ l, b.length = l := ⟨_, rfl⟩
  have HLL := Lib.hid hll
  have HLB := Lib.hid hb
  rw [hll] at hz hb
  clear hs h0 hll
  go_enter Try.func22, Try.ntmps22
  go_wp2_with fail
  go_loop [9] (fun v9 => ∃ i : Nat, i ≤ 4 ∧ v9 = .int .i64 i ∧ i ≤ l ∧ b.take i = List.replicate i true) (fun v9 => 4 - (intOf v9).toNat)
  case atStart => exact ⟨0, by omega, rfl, Nat.zero_le _, rfl⟩
  case round =>
    obtain ⟨i, hi, rfl, hil, ht⟩ := hrel
    have HTK := Lib.hid ht
    clear ht
    by_cases hlt : i < 4
    · by_cases hlt2 : i < l
      · have hbl : i < b.length := by rw [HLL.out]; exact hlt2
        have hbi : i < (bstr b).size := by omega
        have hge := congrArg (fun x : UInt8 => ((x.toNat : Int) == 49)) (bstr_get b i hbi)
        simp only [chr_one] at hge
        obtain ⟨y, hy⟩ : ∃ y, b[i]'hbl = y := ⟨_, rfl⟩
        rw [hy] at hge
        cases y with
        | true =>
          have HT2 := Lib.hid (take_next_true hbl HTK.out hy)
          clear hy
          go_wp2
          go_round
          case rel => exact ⟨i + 1, by omega, by go_num, by omega, HT2.out⟩
          case measure => simp [intOf]; omega
        | false =>
          have HON := Lib.hid (ones_end_false hlt hbl HTK.out hy)
          clear hy
          have hcase : i = 0 ∨ i = 1 ∨ i = 2 ∨ i = 3 := by omega
          rcases hcase with rfl | rfl | rfl | rfl
          · have hcand : candC b = some 0 := by
              unfold candC
              rw [HON.out, if_neg (by show ¬ (b.length < 0 + 1 + 0); rw [HLL.out]; omega)]
              show some (wrap64 ((numB ((b.drop 1).take 0) : Int) + 0)) = some 0
              rw [List.take_zero]
              exact congrArg some (wrap_ok (show okI (((numB [] : Nat) : Int) + 0) by rw [numB_nil]; unfold okI; omega))
            obtain ⟨c, hc⟩ : ∃ c : Int, 0 = c := ⟨_, rfl⟩
            subst hc
            have hto : okI (wrap64 (wrap64 (T + D))) := okI_wrap _
            have hno := fun hp => get_no_put (b := b) (s := (N, T, D)) (c := 0) HOK.out.1 HOK.out.2 hcand hp
            simp only [Int.add_zero] at hno
            have HN := Lib.hid hno
            have HY := Lib.hid (fun h1 h2 => get_yes_put (b := b) (s := (N, T, D)) (t := wrap64 (wrap64 (T + D))) HOK.out.1 hto h1 h2)
            have HPT := Lib.hid (rput_any (N, T, D) (wrap64 (wrap64 (T + D))))
            clear hcand hto hno
            go_wp2_with fail
            refine (HPT.out _).mono ?_
            rintro e w3 ⟨rfl, hb3⟩
            obtain ⟨P, hP⟩ : ∃ P, putS (N, T, D) (wrap64 (wrap64 (T + D))) = P := ⟨_, rfl⟩
            obtain ⟨s', hs'⟩ : ∃ s', aftS (N, T, D) (wrap64 (wrap64 (T + D))) = s' := ⟨_, rfl⟩
            rw [hP] at HN HY ⊢
            rw [hs'] at HY ⊢
            obtain ⟨x, y, z⟩ := s'
            try simp only [] at HY
            clear HPT hs' c0 c1 c2 d0 d1 d2 f0 f1 f2
            obtain ⟨w4, hw4⟩ : ∃ w4, w3.alloc (.cells #[.int .i64 x, .int .i64 y, .int .i64 z] 28 (0, 0)) = w4 := ⟨_, rfl⟩
            have hb34 : Below w3.heap.size w3 w4 := by rw [← hw4]; exact (Below.refl _ _).alloc (Nat.le_refl _) _
            have HBw4 := Lib.hid (later (later HBwA.out hb3) hb34)
            have hst4 : RtAt w4 w.heap.size (N, T, D) := (HSA.out.later hb3).later hb34
            have hr4 : RtAt w4 (w.heap.size + 1) (0, 0, 0) := (HRwA.out.later hb3).later hb34
            have ht4 : RtAt w4 w3.heap.size (x, y, z) := by rw [← hw4]; exact heap_alloc_new w3 _
            have HRw4 := Lib.hid hr4
            have c0 := hst4.c0
            have c1 := hst4.c1
            have c2 := hst4.c2
            have d0 := hr4.c0
            have d1 := hr4.c1
            have d2 := hr4.c2
            have k0 := ht4.c0
            have k1 := ht4.c1
            have k2 := ht4.c2
            have f0 : w4.frozen? ⟨w.heap.size + 1, 0, none⟩ = false := frozen_of_row w4 _ 0 _ _ hr4
            have f1 : w4.frozen? ⟨w.heap.size + 1, 1, none⟩ = false := frozen_of_row w4 _ 1 _ _ hr4
            have f2 : w4.frozen? ⟨w.heap.size + 1, 2, none⟩ = false := frozen_of_row w4 _ 2 _ _ hr4
            try simp only [] at c0 c1 c2 d0 d1 d2 k0 k1 k2
            clear hst4 hr4 ht4 hb34 hb3
            have hpz := bstr_size P
            obtain ⟨q, hq⟩ : ∃ q, P.length = q := ⟨_, rfl⟩
            rw [hq] at hpz HN HY
            have hq68 : q ≤ 68 := by rw [← hq, ← hP]; exact putS_len _ _
            clear hP hq
            by_cases hpl : q ≤ l
            · have hsl := slice_to (P := Try.prog) Try.underlying9 (bstr b) (q : Int) q rfl (by omega)
              rw [bstr_extract, List.drop_zero, Nat.sub_zero] at hsl
              by_cases hpt : b.take q = P
              · have HG := Lib.hid (HY.out (by rw [HLL.out]; exact hpl) hpt)
                have hsm := slice_from (P := Try.prog) Try.underlying9 (bstr b) (q : Int) q rfl (by omega)
                rw [bstr_extract, hz, List.take_of_length_le (by rw [List.length_drop, HLL.out]; omega)] at hsm
                rw [hpt] at hsl
                clear hpt HN HY
                go_wp2_with fail
                go_region
                have hfr := set3_row (.int .i64 x) (.int .i64 y) (.int .i64 z) HRw4.out
                have hfb := set3_below (.int .i64 x) (.int .i64 y) (.int .i64 z) HBw4.out (show w.heap.size ≤ w.heap.size + 1 by omega)
                generalize ((w4.setCell ⟨w.heap.size + 1, 0, none⟩ (.int .i64 x)).setCell ⟨w.heap.size + 1, 1, none⟩ (.int .i64 y)).setCell ⟨w.heap.size + 1, 2, none⟩ (.int .i64 z) = w9 at hfr hfb ⊢
                have hfr : RtAt w9.drew (w.heap.size + 1) (x, y, z) := hfr
                have r0 := hfr.c0
                have r1 := hfr.c1
                have r2 := hfr.c2
                have HFB := Lib.hid hfb
                simp only [] at r0 r1 r2
                clear hfr hfb d0 d1 d2 f0 f1 f2 c0 c1 c2 k0 k1 k2
                go_wp2
                refine bodyPost_ret (v := .tuple #[.agg #[.int .i64 x, .int .i64 y, .int .i64 z], .string (bstr (b.drop q)), .bool true]) ?_ rfl ⟨by rw [HG.out], HFB.out.trans ⟨rfl, rfl, rfl, Nat.le_refl _, fun _ _ => rfl⟩⟩
                simp [results, Try.results22, go_sem, r0, r1, r2]
              · have HG := Lib.hid (HN.out (fun h => hpt h.2))
                have hne : ((bstr (b.take q)).toList == (bstr P).toList) = false := by
                  rw [beq_eq_false_iff_ne]
                  intro h
                  apply hpt
                  apply bstr_inj
                  apply ByteArray.ext
                  apply Array.ext'
                  rw [ByteArray.toList_eq, ByteArray.toList_eq] at h
                  exact h
                clear hpt HN HY
                go_wp2_with fail
                have hfr := set3_row (.int .i64 N) (.int .i64 T) (.int .i64 D) HRw4.out
                have hfb := set3_below (.int .i64 N) (.int .i64 T) (.int .i64 D) HBw4.out (show w.heap.size ≤ w.heap.size + 1 by omega)
                generalize ((w4.setCell ⟨w.heap.size + 1, 0, none⟩ (.int .i64 N)).setCell ⟨w.heap.size + 1, 1, none⟩ (.int .i64 T)).setCell ⟨w.heap.size + 1, 2, none⟩ (.int .i64 D) = w9 at hfr hfb ⊢
                have hfr : RtAt w9 (w.heap.size + 1) (N, T, D) := hfr
                have r0 := hfr.c0
                have r1 := hfr.c1
                have r2 := hfr.c2
                simp only [] at r0 r1 r2
                refine bodyPost_ret (v := .tuple #[.agg #[.int .i64 N, .int .i64 T, .int .i64 D], .string (bstr b), .bool false]) ?_ rfl ⟨by rw [HG.out], hfb⟩
                simp [results, Try.results22, go_sem, r0, r1, r2]
            · have HG := Lib.hid (HN.out (fun h => hpl (by have := h.1; rw [HLL.out] at this; exact this)))
              clear HN HY
              go_wp2_with fail
              have hfr := set3_row (.int .i64 N) (.int .i64 T) (.int .i64 D) HRw4.out
              have hfb := set3_below (.int .i64 N) (.int .i64 T) (.int .i64 D) HBw4.out (show w.heap.size ≤ w.heap.size + 1 by omega)
              generalize ((w4.setCell ⟨w.heap.size + 1, 0, none⟩ (.int .i64 N)).setCell ⟨w.heap.size + 1, 1, none⟩ (.int .i64 T)).setCell ⟨w.heap.size + 1, 2, none⟩ (.int .i64 D) = w9 at hfr hfb ⊢
              have hfr : RtAt w9 (w.heap.size + 1) (N, T, D) := hfr
              have r0 := hfr.c0
              have r1 := hfr.c1
              have r2 := hfr.c2
              simp only [] at r0 r1 r2
              refine bodyPost_ret (v := .tuple #[.agg #[.int .i64 N, .int .i64 T, .int .i64 D], .string (bstr b), .bool false]) ?_ rfl ⟨by rw [HG.out], hfb⟩
              simp [results, Try.results22, go_sem, r0, r1, r2]
          · by_cases hl : l < 2 + 7
            · have HG := Lib.hid (get_none_of (b := b) (s := (N, T, D)) HOK.out.2 (by unfold candC; rw [HON.out, if_pos (by show b.length < 2 + 7; rw [HLL.out]; exact hl)]))
              have HA := Lib.hid (fun W => rat_none b 2 7 63 W (by omega) (by omega) (by rw [HLL.out]; exact hl))
              go_wp2_with fail
              refine (HA.out _).mono ?_
              rintro e w' ⟨rfl, rfl⟩
              go_wp2_with fail
              have hfr := set3_row (.int .i64 N) (.int .i64 T) (.int .i64 D) HRwA.out
              have hfb := set3_below (.int .i64 N) (.int .i64 T) (.int .i64 D) HBwA.out (show w.heap.size ≤ w.heap.size + 1 by omega)
              generalize ((wA.setCell ⟨w.heap.size + 1, 0, none⟩ (.int .i64 N)).setCell ⟨w.heap.size + 1, 1, none⟩ (.int .i64 T)).setCell ⟨w.heap.size + 1, 2, none⟩ (.int .i64 D) = w9 at hfr hfb ⊢
              have hfr : RtAt w9 (w.heap.size + 1) (N, T, D) := hfr
              have r0 := hfr.c0
              have r1 := hfr.c1
              have r2 := hfr.c2
              simp only [] at r0 r1 r2
              refine bodyPost_ret (v := .tuple #[.agg #[.int .i64 N, .int .i64 T, .int .i64 D], .string (bstr b), .bool false]) ?_ rfl ⟨by rw [HG.out], hfb⟩
              simp [results, Try.results22, go_sem, r0, r1, r2]
            · have hcand : candC b = some (wrap64 (wrap64 (numB ((b.drop 2).take 7) : Int) - 63)) := by
                unfold candC
                rw [HON.out, if_neg (by show ¬ (b.length < 2 + 7); rw [HLL.out]; omega)]
                congr 1
                rw [wrap_subL]
                rfl
              have HA := Lib.hid (fun W => rat_some b 2 7 63 W (by omega) (by omega) (by rw [HLL.out]; omega) HLB.out)
              obtain ⟨c, hc⟩ : ∃ c, wrap64 (wrap64 (numB ((b.drop 2).take 7) : Int) - 63) = c := ⟨_, rfl⟩
              rw [hc] at hcand HA
              clear hc
              go_wp2_with fail
              refine (HA.out _).mono ?_
              rintro e w' ⟨rfl, rfl⟩
              clear HA
              have hto : okI (wrap64 (wrap64 (T + D) + c)) := okI_wrap _
              have hno := fun hp => get_no_put (b := b) (s := (N, T, D)) (c := c) HOK.out.1 HOK.out.2 hcand hp
              have HN := Lib.hid hno
              have HY := Lib.hid (fun h1 h2 => get_yes_put (b := b) (s := (N, T, D)) (t := wrap64 (wrap64 (T + D) + c)) HOK.out.1 hto h1 h2)
              have HPT := Lib.hid (rput_any (N, T, D) (wrap64 (wrap64 (T + D) + c)))
              clear hcand hto hno
              go_wp2_with fail
              refine (HPT.out _).mono ?_
              rintro e w3 ⟨rfl, hb3⟩
              obtain ⟨P, hP⟩ : ∃ P, putS (N, T, D) (wrap64 (wrap64 (T + D) + c)) = P := ⟨_, rfl⟩
              obtain ⟨s', hs'⟩ : ∃ s', aftS (N, T, D) (wrap64 (wrap64 (T + D) + c)) = s' := ⟨_, rfl⟩
              rw [hP] at HN HY ⊢
              rw [hs'] at HY ⊢
              obtain ⟨x, y, z⟩ := s'
              try simp only [] at HY
              clear HPT hs' c0 c1 c2 d0 d1 d2 f0 f1 f2
              obtain ⟨w4, hw4⟩ : ∃ w4, w3.alloc (.cells #[.int .i64 x, .int .i64 y, .int .i64 z] 28 (0, 0)) = w4 := ⟨_, rfl⟩
              have hb34 : Below w3.heap.size w3 w4 := by rw [← hw4]; exact (Below.refl _ _).alloc (Nat.le_refl _) _
              have HBw4 := Lib.hid (later (later HBwA.out hb3) hb34)
              have hst4 : RtAt w4 w.heap.size (N, T, D) := (HSA.out.later hb3).later hb34
              have hr4 : RtAt w4 (w.heap.size + 1) (0, 0, 0) := (HRwA.out.later hb3).later hb34
              have ht4 : RtAt w4 w3.heap.size (x, y, z) := by rw [← hw4]; exact heap_alloc_new w3 _
              have HRw4 := Lib.hid hr4
              have c0 := hst4.c0
              have c1 := hst4.c1
              have c2 := hst4.c2
              have d0 := hr4.c0
              have d1 := hr4.c1
              have d2 := hr4.c2
              have k0 := ht4.c0
              have k1 := ht4.c1
              have k2 := ht4.c2
              have f0 : w4.frozen? ⟨w.heap.size + 1, 0, none⟩ = false := frozen_of_row w4 _ 0 _ _ hr4
              have f1 : w4.frozen? ⟨w.heap.size + 1, 1, none⟩ = false := frozen_of_row w4 _ 1 _ _ hr4
              have f2 : w4.frozen? ⟨w.heap.size + 1, 2, none⟩ = false := frozen_of_row w4 _ 2 _ _ hr4
              try simp only [] at c0 c1 c2 d0 d1 d2 k0 k1 k2
              clear hst4 hr4 ht4 hb34 hb3
              have hpz := bstr_size P
              obtain ⟨q, hq⟩ : ∃ q, P.length = q := ⟨_, rfl⟩
              rw [hq] at hpz HN HY
              have hq68 : q ≤ 68 := by rw [← hq, ← hP]; exact putS_len _ _
              clear hP hq
              by_cases hpl : q ≤ l
              · have hsl := slice_to (P := Try.prog) Try.underlying9 (bstr b) (q : Int) q rfl (by omega)
                rw [bstr_extract, List.drop_zero, Nat.sub_zero] at hsl
                by_cases hpt : b.take q = P
                · have HG := Lib.hid (HY.out (by rw [HLL.out]; exact hpl) hpt)
                  have hsm := slice_from (P := Try.prog) Try.underlying9 (bstr b) (q : Int) q rfl (by omega)
                  rw [bstr_extract, hz, List.take_of_length_le (by rw [List.length_drop, HLL.out]; omega)] at hsm
                  rw [hpt] at hsl
                  clear hpt HN HY
                  go_wp2_with fail
                  go_region
                  have hfr := set3_row (.int .i64 x) (.int .i64 y) (.int .i64 z) HRw4.out
                  have hfb := set3_below (.int .i64 x) (.int .i64 y) (.int .i64 z) HBw4.out (show w.heap.size ≤ w.heap.size + 1 by omega)
                  generalize ((w4.setCell ⟨w.heap.size + 1, 0, none⟩ (.int .i64 x)).setCell ⟨w.heap.size + 1, 1, none⟩ (.int .i64 y)).setCell ⟨w.heap.size + 1, 2, none⟩ (.int .i64 z) = w9 at hfr hfb ⊢
                  have hfr : RtAt w9.drew (w.heap.size + 1) (x, y, z) := hfr
                  have r0 := hfr.c0
                  have r1 := hfr.c1
                  have r2 := hfr.c2
                  have HFB := Lib.hid hfb
                  simp only [] at r0 r1 r2
                  clear hfr hfb d0 d1 d2 f0 f1 f2 c0 c1 c2 k0 k1 k2
                  go_wp2
                  refine bodyPost_ret (v := .tuple #[.agg #[.int .i64 x, .int .i64 y, .int .i64 z], .string (bstr (b.drop q)), .bool true]) ?_ rfl ⟨by rw [HG.out], HFB.out.trans ⟨rfl, rfl, rfl, Nat.le_refl _, fun _ _ => rfl⟩⟩
                  simp [results, Try.results22, go_sem, r0, r1, r2]
                · have HG := Lib.hid (HN.out (fun h => hpt h.2))
                  have hne : ((bstr (b.take q)).toList == (bstr P).toList) = false := by
                    rw [beq_eq_false_iff_ne]
                    intro h
                    apply hpt
                    apply bstr_inj
                    apply ByteArray.ext
                    apply Array.ext'
                    rw [ByteArray.toList_eq, ByteArray.toList_eq] at h
                    exact h
                  clear hpt HN HY
                  go_wp2_with fail
                  have hfr := set3_row (.int .i64 N) (.int .i64 T) (.int .i64 D) HRw4.out
                  have hfb := set3_below (.int .i64 N) (.int .i64 T) (.int .i64 D) HBw4.out (show w.heap.size ≤ w.heap.size + 1 by omega)
                  generalize ((w4.setCell ⟨w.heap.size + 1, 0, none⟩ (.int .i64 N)).setCell ⟨w.heap.size + 1, 1, none⟩ (.int .i64 T)).setCell ⟨w.heap.size + 1, 2, none⟩ (.int .i64 D) = w9 at hfr hfb ⊢
                  have hfr : RtAt w9 (w.heap.size + 1) (N, T, D) := hfr
                  have r0 := hfr.c0
                  have r1 := hfr.c1
                  have r2 := hfr.c2
                  simp only [] at r0 r1 r2
                  refine bodyPost_ret (v := .tuple #[.agg #[.int .i64 N, .int .i64 T, .int .i64 D], .string (bstr b), .bool false]) ?_ rfl ⟨by rw [HG.out], hfb⟩
                  simp [results, Try.results22, go_sem, r0, r1, r2]
              · have HG := Lib.hid (HN.out (fun h => hpl (by have := h.1; rw [HLL.out] at this; exact this)))
                clear HN HY
                go_wp2_with fail
                have hfr := set3_row (.int .i64 N) (.int .i64 T) (.int .i64 D) HRw4.out
                have hfb := set3_below (.int .i64 N) (.int .i64 T) (.int .i64 D) HBw4.out (show w.heap.size ≤ w.heap.size + 1 by omega)
                generalize ((w4.setCell ⟨w.heap.size + 1, 0, none⟩ (.int .i64 N)).setCell ⟨w.heap.size + 1, 1, none⟩ (.int .i64 T)).setCell ⟨w.heap.size + 1, 2, none⟩ (.int .i64 D) = w9 at hfr hfb ⊢
                have hfr : RtAt w9 (w.heap.size + 1) (N, T, D) := hfr
                have r0 := hfr.c0
                have r1 := hfr.c1
                have r2 := hfr.c2
                simp only [] at r0 r1 r2
                refine bodyPost_ret (v := .tuple #[.agg #[.int .i64 N, .int .i64 T, .int .i64 D], .string (bstr b), .bool false]) ?_ rfl ⟨by rw [HG.out], hfb⟩
                simp [results, Try.results22, go_sem, r0, r1, r2]
          · by_cases hl : l < 3 + 9
            · have HG := Lib.hid (get_none_of (b := b) (s := (N, T, D)) HOK.out.2 (by unfold candC; rw [HON.out, if_pos (by show b.length < 3 + 9; rw [HLL.out]; exact hl)]))
              have HA := Lib.hid (fun W => rat_none b 3 9 255 W (by omega) (by omega) (by rw [HLL.out]; exact hl))
              go_wp2_with fail
              refine (HA.out _).mono ?_
              rintro e w' ⟨rfl, rfl⟩
              go_wp2_with fail
              have hfr := set3_row (.int .i64 N) (.int .i64 T) (.int .i64 D) HRwA.out
              have hfb := set3_below (.int .i64 N) (.int .i64 T) (.int .i64 D) HBwA.out (show w.heap.size ≤ w.heap.size + 1 by omega)
              generalize ((wA.setCell ⟨w.heap.size + 1, 0, none⟩ (.int .i64 N)).setCell ⟨w.heap.size + 1, 1, none⟩ (.int .i64 T)).setCell ⟨w.heap.size + 1, 2, none⟩ (.int .i64 D) = w9 at hfr hfb ⊢
              have hfr : RtAt w9 (w.heap.size + 1) (N, T, D) := hfr
              have r0 := hfr.c0
              have r1 := hfr.c1
              have r2 := hfr.c2
              simp only [] at r0 r1 r2
              refine bodyPost_ret (v := .tuple #[.agg #[.int .i64 N, .int .i64 T, .int .i64 D], .string (bstr b), .bool false]) ?_ rfl ⟨by rw [HG.out], hfb⟩
              simp [results, Try.results22, go_sem, r0, r1, r2]
            · have hcand : candC b = some (wrap64 (wrap64 (numB ((b.drop 3).take 9) : Int) - 255)) := by
                unfold candC
                rw [HON.out, if_neg (by show ¬ (b.length < 3 + 9); rw [HLL.out]; omega)]
                congr 1
                rw [wrap_subL]
                rfl
              have HA := Lib.hid (fun W => rat_some b 3 9 255 W (by omega) (by omega) (by rw [HLL.out]; omega) HLB.out)
              obtain ⟨c, hc⟩ : ∃ c, wrap64 (wrap64 (numB ((b.drop 3).take 9) : Int) - 255) = c := ⟨_, rfl⟩
              rw [hc] at hcand HA
              clear hc
              go_wp2_with fail
              refine (HA.out _).mono ?_
              rintro e w' ⟨rfl, rfl⟩
              clear HA
              have hto : okI (wrap64 (wrap64 (T + D) + c)) := okI_wrap _
              have hno := fun hp => get_no_put (b := b) (s := (N, T, D)) (c := c) HOK.out.1 HOK.out.2 hcand hp
              have HN := Lib.hid hno
              have HY := Lib.hid (fun h1 h2 => get_yes_put (b := b) (s := (N, T, D)) (t := wrap64 (wrap64 (T + D) + c)) HOK.out.1 hto h1 h2)
              have HPT := Lib.hid (rput_any (N, T, D) (wrap64 (wrap64 (T + D) + c)))
              clear hcand hto hno
              go_wp2_with fail
              refine (HPT.out _).mono ?_
              rintro e w3 ⟨rfl, hb3⟩
              obtain ⟨P, hP⟩ : ∃ P, putS (N, T, D) (wrap64 (wrap64 (T + D) + c)) = P := ⟨_, rfl⟩
              obtain ⟨s', hs'⟩ : ∃ s', aftS (N, T, D) (wrap64 (wrap64 (T + D) + c)) = s' := ⟨_, rfl⟩
              rw [hP] at HN HY ⊢
              rw [hs'] at HY ⊢
              obtain ⟨x, y, z⟩ := s'
              try simp only [] at HY
              clear HPT hs' c0 c1 c2 d0 d1 d2 f0 f1 f2
              obtain ⟨w4, hw4⟩ : ∃ w4, w3.alloc (.cells #[.int .i64 x, .int .i64 y, .int .i64 z] 28 (0, 0)) = w4 := ⟨_, rfl⟩
              have hb34 : Below w3.heap.size w3 w4 := by rw [← hw4]; exact (Below.refl _ _).alloc (Nat.le_refl _) _
              have HBw4 := Lib.hid (later (later HBwA.out hb3) hb34)
              have hst4 : RtAt w4 w.heap.size (N, T, D) := (HSA.out.later hb3).later hb34
              have hr4 : RtAt w4 (w.heap.size + 1) (0, 0, 0) := (HRwA.out.later hb3).later hb34
              have ht4 : RtAt w4 w3.heap.size (x, y, z) := by rw [← hw4]; exact heap_alloc_new w3 _
              have HRw4 := Lib.hid hr4
              have c0 := hst4.c0
              have c1 := hst4.c1
              have c2 := hst4.c2
              have d0 := hr4.c0
              have d1 := hr4.c1
              have d2 := hr4.c2
              have k0 := ht4.c0
              have k1 := ht4.c1
              have k2 := ht4.c2
              have f0 : w4.frozen? ⟨w.heap.size + 1, 0, none⟩ = false := frozen_of_row w4 _ 0 _ _ hr4
              have f1 : w4.frozen? ⟨w.heap.size + 1, 1, none⟩ = false := frozen_of_row w4 _ 1 _ _ hr4
              have f2 : w4.frozen? ⟨w.heap.size + 1, 2, none⟩ = false := frozen_of_row w4 _ 2 _ _ hr4
              try simp only [] at c0 c1 c2 d0 d1 d2 k0 k1 k2
              clear hst4 hr4 ht4 hb34 hb3
              have hpz := bstr_size P
              obtain ⟨q, hq⟩ : ∃ q, P.length = q := ⟨_, rfl⟩
              rw [hq] at hpz HN HY
              have hq68 : q ≤ 68 := by rw [← hq, ← hP]; exact putS_len _ _
              clear hP hq
              by_cases hpl : q ≤ l
              · have hsl := slice_to (P := Try.prog) Try.underlying9 (bstr b) (q : Int) q rfl (by omega)
                rw [bstr_extract, List.drop_zero, Nat.sub_zero] at hsl
                by_cases hpt : b.take q = P
                · have HG := Lib.hid (HY.out (by rw [HLL.out]; exact hpl) hpt)
                  have hsm := slice_from (P := Try.prog) Try.underlying9 (bstr b) (q : Int) q rfl (by omega)
                  rw [bstr_extract, hz, List.take_of_length_le (by rw [List.length_drop, HLL.out]; omega)] at hsm
                  rw [hpt] at hsl
                  clear hpt HN HY
                  go_wp2_with fail
                  go_region
                  have hfr := set3_row (.int .i64 x) (.int .i64 y) (.int .i64 z) HRw4.out
                  have hfb := set3_below (.int .i64 x) (.int .i64 y) (.int .i64 z) HBw4.out (show w.heap.size ≤ w.heap.size + 1 by omega)
                  generalize ((w4.setCell ⟨w.heap.size + 1, 0, none⟩ (.int .i64 x)).setCell ⟨w.heap.size + 1, 1, none⟩ (.int .i64 y)).setCell ⟨w.heap.size + 1, 2, none⟩ (.int .i64 z) = w9 at hfr hfb ⊢
                  have hfr : RtAt w9.drew (w.heap.size + 1) (x, y, z) := hfr
                  have r0 := hfr.c0
                  have r1 := hfr.c1
                  have r2 := hfr.c2
                  have HFB := Lib.hid hfb
                  simp only [] at r0 r1 r2
                  clear hfr hfb d0 d1 d2 f0 f1 f2 c0 c1 c2 k0 k1 k2
                  go_wp2
                  refine bodyPost_ret (v := .tuple #[.agg #[.int .i64 x, .int .i64 y, .int .i64 z], .string (bstr (b.drop q)), .bool true]) ?_ rfl ⟨by rw [HG.out], HFB.out.trans ⟨rfl, rfl, rfl, Nat.le_refl _, fun _ _ => rfl⟩⟩
                  simp [results, Try.results22, go_sem, r0, r1, r2]
                · have HG := Lib.hid (HN.out (fun h => hpt h.2))
                  have hne : ((bstr (b.take q)).toList == (bstr P).toList) = false := by
                    rw [beq_eq_false_iff_ne]
                    intro h
                    apply hpt
                    apply bstr_inj
                    apply ByteArray.ext
                    apply Array.ext'
                    rw [ByteArray.toList_eq, ByteArray.toList_eq] at h
                    exact h
                  clear hpt HN HY
                  go_wp2_with fail
                  have hfr := set3_row (.int .i64 N) (.int .i64 T) (.int .i64 D) HRw4.out
                  have hfb := set3_below (.int .i64 N) (.int .i64 T) (.int .i64 D) HBw4.out (show w.heap.size ≤ w.heap.size + 1 by omega)
                  generalize ((w4.setCell ⟨w.heap.size + 1, 0, none⟩ (.int .i64 N)).setCell ⟨w.heap.size + 1, 1, none⟩ (.int .i64 T)).setCell ⟨w.heap.size + 1, 2, none⟩ (.int .i64 D) = w9 at hfr hfb ⊢
                  have hfr : RtAt w9 (w.heap.size + 1) (N, T, D) := hfr
                  have r0 := hfr.c0
                  have r1 := hfr.c1
                  have r2 := hfr.c2
                  simp only [] at r0 r1 r2
                  refine bodyPost_ret (v := .tuple #[.agg #[.int .i64 N, .int .i64 T, .int .i64 D], .string (bstr b), .bool false]) ?_ rfl ⟨by rw [HG.out], hfb⟩
                  simp [results, Try.results22, go_sem, r0, r1, r2]
              · have HG := Lib.hid (HN.out (fun h => hpl (by have := h.1; rw [HLL.out] at this; exact this)))
                clear HN HY
                go_wp2_with fail
                have hfr := set3_row (.int .i64 N) (.int .i64 T) (.int .i64 D) HRw4.out
                have hfb := set3_below (.int .i64 N) (.int .i64 T) (.int .i64 D) HBw4.out (show w.heap.size ≤ w.heap.size + 1 by omega)
                generalize ((w4.setCell ⟨w.heap.size + 1, 0, none⟩ (.int .i64 N)).setCell ⟨w.heap.size + 1, 1, none⟩ (.int .i64 T)).setCell ⟨w.heap.size + 1, 2, none⟩ (.int .i64 D) = w9 at hfr hfb ⊢
                have hfr : RtAt w9 (w.heap.size + 1) (N, T, D) := hfr
                have r0 := hfr.c0
                have r1 := hfr.c1
                have r2 := hfr.c2
                simp only [] at r0 r1 r2
                refine bodyPost_ret (v := .tuple #[.agg #[.int .i64 N, .int .i64 T, .int .i64 D], .string (bstr b), .bool false]) ?_ rfl ⟨by rw [HG.out], hfb⟩
                simp [results, Try.results22, go_sem, r0, r1, r2]
          · by_cases hl : l < 4 + 12
            · have HG := Lib.hid (get_none_of (b := b) (s := (N, T, D)) HOK.out.2 (by unfold candC; rw [HON.out, if_pos (by show b.length < 4 + 12; rw [HLL.out]; exact hl)]))
              have HA := Lib.hid (fun W => rat_none b 4 12 2047 W (by omega) (by omega) (by rw [HLL.out]; exact hl))
              go_wp2_with fail
              refine (HA.out _).mono ?_
              rintro e w' ⟨rfl, rfl⟩
              go_wp2_with fail
              have hfr := set3_row (.int .i64 N) (.int .i64 T) (.int .i64 D) HRwA.out
              have hfb := set3_below (.int .i64 N) (.int .i64 T) (.int .i64 D) HBwA.out (show w.heap.size ≤ w.heap.size + 1 by omega)
              generalize ((wA.setCell ⟨w.heap.size + 1, 0, none⟩ (.int .i64 N)).setCell ⟨w.heap.size + 1, 1, none⟩ (.int .i64 T)).setCell ⟨w.heap.size + 1, 2, none⟩ (.int .i64 D) = w9 at hfr hfb ⊢
              have hfr : RtAt w9 (w.heap.size + 1) (N, T, D) := hfr
              have r0 := hfr.c0
              have r1 := hfr.c1
              have r2 := hfr.c2
              simp only [] at r0 r1 r2
              refine bodyPost_ret (v := .tuple #[.agg #[.int .i64 N, .int .i64 T, .int .i64 D], .string (bstr b), .bool false]) ?_ rfl ⟨by rw [HG.out], hfb⟩
              simp [results, Try.results22, go_sem, r0, r1, r2]
            · have hcand : candC b = some (wrap64 (wrap64 (numB ((b.drop 4).take 12) : Int) - 2047)) := by
                unfold candC
                rw [HON.out, if_neg (by show ¬ (b.length < 4 + 12); rw [HLL.out]; omega)]
                congr 1
                rw [wrap_subL]
                rfl
              have HA := Lib.hid (fun W => rat_some b 4 12 2047 W (by omega) (by omega) (by rw [HLL.out]; omega) HLB.out)
              obtain ⟨c, hc⟩ : ∃ c, wrap64 (wrap64 (numB ((b.drop 4).take 12) : Int) - 2047) = c := ⟨_, rfl⟩
              rw [hc] at hcand HA
              clear hc
              go_wp2_with fail
              refine (HA.out _).mono ?_
              rintro e w' ⟨rfl, rfl⟩
              clear HA
              have hto : okI (wrap64 (wrap64 (T + D) + c)) := okI_wrap _
              have hno := fun hp => get_no_put (b := b) (s := (N, T, D)) (c := c) HOK.out.1 HOK.out.2 hcand hp
              have HN := Lib.hid hno
              have HY := Lib.hid (fun h1 h2 => get_yes_put (b := b) (s := (N, T, D)) (t := wrap64 (wrap64 (T + D) + c)) HOK.out.1 hto h1 h2)
              have HPT := Lib.hid (rput_any (N, T, D) (wrap64 (wrap64 (T + D) + c)))
              clear hcand hto hno
              go_wp2_with fail
              refine (HPT.out _).mono ?_
              rintro e w3 ⟨rfl, hb3⟩
              obtain ⟨P, hP⟩ : ∃ P, putS (N, T, D) (wrap64 (wrap64 (T + D) + c)) = P := ⟨_, rfl⟩
              obtain ⟨s', hs'⟩ : ∃ s', aftS (N, T, D) (wrap64 (wrap64 (T + D) + c)) = s' := ⟨_, rfl⟩
              rw [hP] at HN HY ⊢
              rw [hs'] at HY ⊢
              obtain ⟨x, y, z⟩ := s'
              try simp only [] at HY
              clear HPT hs' c0 c1 c2 d0 d1 d2 f0 f1 f2
              obtain ⟨w4, hw4⟩ : ∃ w4, w3.alloc (.cells #[.int .i64 x, .int .i64 y, .int .i64 z] 28 (0, 0)) = w4 := ⟨_, rfl⟩
              have hb34 : Below w3.heap.size w3 w4 := by rw [← hw4]; exact (Below.refl _ _).alloc (Nat.le_refl _) _
              have HBw4 := Lib.hid (later (later HBwA.out hb3) hb34)
              have hst4 : RtAt w4 w.heap.size (N, T, D) := (HSA.out.later hb3).later hb34
              have hr4 : RtAt w4 (w.heap.size + 1) (0, 0, 0) := (HRwA.out.later hb3).later hb34
              have ht4 : RtAt w4 w3.heap.size (x, y, z) := by rw [← hw4]; exact heap_alloc_new w3 _
              have HRw4 := Lib.hid hr4
              have c0 := hst4.c0
              have c1 := hst4.c1
              have c2 := hst4.c2
              have d0 := hr4.c0
              have d1 := hr4.c1
              have d2 := hr4.c2
              have k0 := ht4.c0
              have k1 := ht4.c1
              have k2 := ht4.c2
              have f0 : w4.frozen? ⟨w.heap.size + 1, 0, none⟩ = false := frozen_of_row w4 _ 0 _ _ hr4
              have f1 : w4.frozen? ⟨w.heap.size + 1, 1, none⟩ = false := frozen_of_row w4 _ 1 _ _ hr4
              have f2 : w4.frozen? ⟨w.heap.size + 1, 2, none⟩ = false := frozen_of_row w4 _ 2 _ _ hr4
              try simp only [] at c0 c1 c2 d0 d1 d2 k0 k1 k2
              clear hst4 hr4 ht4 hb34 hb3
              have hpz := bstr_size P
              obtain ⟨q, hq⟩ : ∃ q, P.length = q := ⟨_, rfl⟩
              rw [hq] at hpz HN HY
              have hq68 : q ≤ 68 := by rw [← hq, ← hP]; exact putS_len _ _
              clear hP hq
              by_cases hpl : q ≤ l
              · have hsl := slice_to (P := Try.prog) Try.underlying9 (bstr b) (q : Int) q rfl (by omega)
                rw [bstr_extract, List.drop_zero, Nat.sub_zero] at hsl
                by_cases hpt : b.take q = P
                · have HG := Lib.hid (HY.out (by rw [HLL.out]; exact hpl) hpt)
                  have hsm := slice_from (P := Try.prog) Try.underlying9 (bstr b) (q : Int) q rfl (by omega)
                  rw [bstr_extract, hz, List.take_of_length_le (by rw [List.length_drop, HLL.out]; omega)] at hsm
                  rw [hpt] at hsl
                  clear hpt HN HY
                  go_wp2_with fail
                  go_region
                  have hfr := set3_row (.int .i64 x) (.int .i64 y) (.int .i64 z) HRw4.out
                  have hfb := set3_below (.int .i64 x) (.int .i64 y) (.int .i64 z) HBw4.out (show w.heap.size ≤ w.heap.size + 1 by omega)
                  generalize ((w4.setCell ⟨w.heap.size + 1, 0, none⟩ (.int .i64 x)).setCell ⟨w.heap.size + 1, 1, none⟩ (.int .i64 y)).setCell ⟨w.heap.size + 1, 2, none⟩ (.int .i64 z) = w9 at hfr hfb ⊢
                  have hfr : RtAt w9.drew (w.heap.size + 1) (x, y, z) := hfr
                  have r0 := hfr.c0
                  have r1 := hfr.c1
                  have r2 := hfr.c2
                  have HFB := Lib.hid hfb
                  simp only [] at r0 r1 r2
                  clear hfr hfb d0 d1 d2 f0 f1 f2 c0 c1 c2 k0 k1 k2
                  go_wp2
                  refine bodyPost_ret (v := .tuple #[.agg #[.int .i64 x, .int .i64 y, .int .i64 z], .string (bstr (b.drop q)), .bool true]) ?_ rfl ⟨by rw [HG.out], HFB.out.trans ⟨rfl, rfl, rfl, Nat.le_refl _, fun _ _ => rfl⟩⟩
                  simp [results, Try.results22, go_sem, r0, r1, r2]
                · have HG := Lib.hid (HN.out (fun h => hpt h.2))
                  have hne : ((bstr (b.take q)).toList == (bstr P).toList) = false := by
                    rw [beq_eq_false_iff_ne]
                    intro h
                    apply hpt
                    apply bstr_inj
                    apply ByteArray.ext
                    apply Array.ext'
                    rw [ByteArray.toList_eq, ByteArray.toList_eq] at h
                    exact h
                  clear hpt HN HY
                  go_wp2_with fail
                  have hfr := set3_row (.int .i64 N) (.int .i64 T) (.int .i64 D) HRw4.out
                  have hfb := set3_below (.int .i64 N) (.int .i64 T) (.int .i64 D) HBw4.out (show w.heap.size ≤ w.heap.size + 1 by omega)
                  generalize ((w4.setCell ⟨w.heap.size + 1, 0, none⟩ (.int .i64 N)).setCell ⟨w.heap.size + 1, 1, none⟩ (.int .i64 T)).setCell ⟨w.heap.size + 1, 2, none⟩ (.int .i64 D) = w9 at hfr hfb ⊢
                  have hfr : RtAt w9 (w.heap.size + 1) (N, T, D) := hfr
                  have r0 := hfr.c0
                  have r1 := hfr.c1
                  have r2 := hfr.c2
                  simp only [] at r0 r1 r2
                  refine bodyPost_ret (v := .tuple #[.agg #[.int .i64 N, .int .i64 T, .int .i64 D], .string (bstr b), .bool false]) ?_ rfl ⟨by rw [HG.out], hfb⟩
                  simp [results, Try.results22, go_sem, r0, r1, r2]
              · have HG := Lib.hid (HN.out (fun h => hpl (by have := h.1; rw [HLL.out] at this; exact this)))
                clear HN HY
                go_wp2_with fail
                have hfr := set3_row (.int .i64 N) (.int .i64 T) (.int .i64 D) HRw4.out
                have hfb := set3_below (.int .i64 N) (.int .i64 T) (.int .i64 D) HBw4.out (show w.heap.size ≤ w.heap.size + 1 by omega)
                generalize ((w4.setCell ⟨w.heap.size + 1, 0, none⟩ (.int .i64 N)).setCell ⟨w.heap.size + 1, 1, none⟩ (.int .i64 T)).setCell ⟨w.heap.size + 1, 2, none⟩ (.int .i64 D) = w9 at hfr hfb ⊢
                have hfr : RtAt w9 (w.heap.size + 1) (N, T, D) := hfr
                have r0 := hfr.c0
                have r1 := hfr.c1
                have r2 := hfr.c2
                simp only [] at r0 r1 r2
                refine bodyPost_ret (v := .tuple #[.agg #[.int .i64 N, .int .i64 T, .int .i64 D], .string (bstr b), .bool false]) ?_ rfl ⟨by rw [HG.out], hfb⟩
                simp [results, Try.results22, go_sem, r0, r1, r2]
      · obtain rfl : i = l := by omega
        have HON := Lib.hid (ones_end_len hi (by rw [HLL.out]; exact Nat.le_refl _) HTK.out)
        have HG := Lib.hid (get_none_of (b := b) (s := (N, T, D)) HOK.out.2 (by unfold candC headLen; rw [HON.out, if_pos (by rw [HLL.out, if_pos hlt]; omega)]))
        have hcase : i = 0 ∨ i = 1 ∨ i = 2 ∨ i = 3 := by omega
        rcases hcase with rfl | rfl | rfl | rfl
        · go_wp2_with fail
          have hfr := set3_row (.int .i64 N) (.int .i64 T) (.int .i64 D) HRwA.out
          have hfb := set3_below (.int .i64 N) (.int .i64 T) (.int .i64 D) HBwA.out (show w.heap.size ≤ w.heap.size + 1 by omega)
          generalize ((wA.setCell ⟨w.heap.size + 1, 0, none⟩ (.int .i64 N)).setCell ⟨w.heap.size + 1, 1, none⟩ (.int .i64 T)).setCell ⟨w.heap.size + 1, 2, none⟩ (.int .i64 D) = w9 at hfr hfb ⊢
          have hfr : RtAt w9 (w.heap.size + 1) (N, T, D) := hfr
          have r0 := hfr.c0
          have r1 := hfr.c1
          have r2 := hfr.c2
          simp only [] at r0 r1 r2
          refine bodyPost_ret (v := .tuple #[.agg #[.int .i64 N, .int .i64 T, .int .i64 D], .string (bstr b), .bool false]) ?_ rfl ⟨by rw [HG.out], hfb⟩
          simp [results, Try.results22, go_sem, r0, r1, r2]
        · have HA := Lib.hid (fun W => rat_none b 2 7 63 W (by omega) (by omega) (by rw [HLL.out]; omega))
          go_wp2_with fail
          refine (HA.out _).mono ?_
          rintro e w' ⟨rfl, rfl⟩
          go_wp2_with fail
          have hfr := set3_row (.int .i64 N) (.int .i64 T) (.int .i64 D) HRwA.out
          have hfb := set3_below (.int .i64 N) (.int .i64 T) (.int .i64 D) HBwA.out (show w.heap.size ≤ w.heap.size + 1 by omega)
          generalize ((wA.setCell ⟨w.heap.size + 1, 0, none⟩ (.int .i64 N)).setCell ⟨w.heap.size + 1, 1, none⟩ (.int .i64 T)).setCell ⟨w.heap.size + 1, 2, none⟩ (.int .i64 D) = w9 at hfr hfb ⊢
          have hfr : RtAt w9 (w.heap.size + 1) (N, T, D) := hfr
          have r0 := hfr.c0
          have r1 := hfr.c1
          have r2 := hfr.c2
          simp only [] at r0 r1 r2
          refine bodyPost_ret (v := .tuple #[.agg #[.int .i64 N, .int .i64 T, .int .i64 D], .string (bstr b), .bool false]) ?_ rfl ⟨by rw [HG.out], hfb⟩
          simp [results, Try.results22, go_sem, r0, r1, r2]
        · have HA := Lib.hid (fun W => rat_none b 3 9 255 W (by omega) (by omega) (by rw [HLL.out]; omega))
          go_wp2_with fail
          refine (HA.out _).mono ?_
          rintro e w' ⟨rfl, rfl⟩
          go_wp2_with fail
          have hfr := set3_row (.int .i64 N) (.int .i64 T) (.int .i64 D) HRwA.out
          have hfb := set3_below (.int .i64 N) (.int .i64 T) (.int .i64 D) HBwA.out (show w.heap.size ≤ w.heap.size + 1 by omega)
          generalize ((wA.setCell ⟨w.heap.size + 1, 0, none⟩ (.int .i64 N)).setCell ⟨w.heap.size + 1, 1, none⟩ (.int .i64 T)).setCell ⟨w.heap.size + 1, 2, none⟩ (.int .i64 D) = w9 at hfr hfb ⊢
          have hfr : RtAt w9 (w.heap.size + 1) (N, T, D) := hfr
          have r0 := hfr.c0
          have r1 := hfr.c1
          have r2 := hfr.c2
          simp only [] at r0 r1 r2
          refine bodyPost_ret (v := .tuple #[.agg #[.int .i64 N, .int .i64 T, .int .i64 D], .string (bstr b), .bool false]) ?_ rfl ⟨by rw [HG.out], hfb⟩
          simp [results, Try.results22, go_sem, r0, r1, r2]
        · have HA := Lib.hid (fun W => rat_none b 4 12 2047 W (by omega) (by omega) (by rw [HLL.out]; omega))
          go_wp2_with fail
          refine (HA.out _).mono ?_
          rintro e w' ⟨rfl, rfl⟩
          go_wp2_with fail
          have hfr := set3_row (.int .i64 N) (.int .i64 T) (.int .i64 D) HRwA.out
          have hfb := set3_below (.int .i64 N) (.int .i64 T) (.int .i64 D) HBwA.out (show w.heap.size ≤ w.heap.size + 1 by omega)
          generalize ((wA.setCell ⟨w.heap.size + 1, 0, none⟩ (.int .i64 N)).setCell ⟨w.heap.size + 1, 1, none⟩ (.int .i64 T)).setCell ⟨w.heap.size + 1, 2, none⟩ (.int .i64 D) = w9 at hfr hfb ⊢
          have hfr : RtAt w9 (w.heap.size + 1) (N, T, D) := hfr
          have r0 := hfr.c0
          have r1 := hfr.c1
          have r2 := hfr.c2
          simp only [] at r0 r1 r2
          refine bodyPost_ret (v := .tuple #[.agg #[.int .i64 N, .int .i64 T, .int .i64 D], .string (bstr b), .bool false]) ?_ rfl ⟨by rw [HG.out], hfb⟩
          simp [results, Try.results22, go_sem, r0, r1, r2]
    · obtain rfl : i = 4 := by omega
      have HON := Lib.hid (ones_of b 4 (by omega) HTK.out (.inl rfl))
      by_cases hl : l < 4 + 64
      · have HG := Lib.hid (get_none_of (b := b) (s := (N, T, D)) HOK.out.2 (by unfold candC; rw [HON.out, if_pos (by show b.length < 4 + 64; rw [HLL.out]; exact hl)]))
        have HA := Lib.hid (fun W => rat_none b 4 64 0 W (by omega) (by omega) (by rw [HLL.out]; exact hl))
        go_wp2_with fail
        refine (HA.out _).mono ?_
        rintro e w' ⟨rfl, rfl⟩
        go_wp2_with fail
        have hfr := set3_row (.int .i64 N) (.int .i64 T) (.int .i64 D) HRwA.out
        have hfb := set3_below (.int .i64 N) (.int .i64 T) (.int .i64 D) HBwA.out (show w.heap.size ≤ w.heap.size + 1 by omega)
        generalize ((wA.setCell ⟨w.heap.size + 1, 0, none⟩ (.int .i64 N)).setCell ⟨w.heap.size + 1, 1, none⟩ (.int .i64 T)).setCell ⟨w.heap.size + 1, 2, none⟩ (.int .i64 D) = w9 at hfr hfb ⊢
        have hfr : RtAt w9 (w.heap.size + 1) (N, T, D) := hfr
        have r0 := hfr.c0
        have r1 := hfr.c1
        have r2 := hfr.c2
        simp only [] at r0 r1 r2
        refine bodyPost_ret (v := .tuple #[.agg #[.int .i64 N, .int .i64 T, .int .i64 D], .string (bstr b), .bool false]) ?_ rfl ⟨by rw [HG.out], hfb⟩
        simp [results, Try.results22, go_sem, r0, r1, r2]
      · have hcand : candC b = some (wrap64 (wrap64 (numB ((b.drop 4).take 64) : Int) - 0)) := by
          unfold candC
          rw [HON.out, if_neg (by show ¬ (b.length < 4 + 64); rw [HLL.out]; omega)]
          congr 1
          rw [wrap_subL]
          rfl
        have HA := Lib.hid (fun W => rat_some b 4 64 0 W (by omega) (by omega) (by rw [HLL.out]; omega) HLB.out)
        obtain ⟨c, hc⟩ : ∃ c, wrap64 (wrap64 (numB ((b.drop 4).take 64) : Int) - 0) = c := ⟨_, rfl⟩
        rw [hc] at hcand HA
        clear hc
        go_wp2_with fail
        refine (HA.out _).mono ?_
        rintro e w' ⟨rfl, rfl⟩
        clear HA
        have hto : okI (wrap64 (wrap64 (T + D) + c)) := okI_wrap _
        have hno := fun hp => get_no_put (b := b) (s := (N, T, D)) (c := c) HOK.out.1 HOK.out.2 hcand hp
        have HN := Lib.hid hno
        have HY := Lib.hid (fun h1 h2 => get_yes_put (b := b) (s := (N, T, D)) (t := wrap64 (wrap64 (T + D) + c)) HOK.out.1 hto h1 h2)
        have HPT := Lib.hid (rput_any (N, T, D) (wrap64 (wrap64 (T + D) + c)))
        clear hcand hto hno
        go_wp2_with fail
        refine (HPT.out _).mono ?_
        rintro e w3 ⟨rfl, hb3⟩
        obtain ⟨P, hP⟩ : ∃ P, putS (N, T, D) (wrap64 (wrap64 (T + D) + c)) = P := ⟨_, rfl⟩
        obtain ⟨s', hs'⟩ : ∃ s', aftS (N, T, D) (wrap64 (wrap64 (T + D) + c)) = s' := ⟨_, rfl⟩
        rw [hP] at HN HY ⊢
        rw [hs'] at HY ⊢
        obtain ⟨x, y, z⟩ := s'
        try simp only [] at HY
        clear HPT hs' c0 c1 c2 d0 d1 d2 f0 f1 f2
        obtain ⟨w4, hw4⟩ : ∃ w4, w3.alloc (.cells #[.int .i64 x, .int .i64 y, .int .i64 z] 28 (0, 0)) = w4 := ⟨_, rfl⟩
        have hb34 : Below w3.heap.size w3 w4 := by rw [← hw4]; exact (Below.refl _ _).alloc (Nat.le_refl _) _
        have HBw4 := Lib.hid (later (later HBwA.out hb3) hb34)
        have hst4 : RtAt w4 w.heap.size (N, T, D) := (HSA.out.later hb3).later hb34
        have hr4 : RtAt w4 (w.heap.size + 1) (0, 0, 0) := (HRwA.out.later hb3).later hb34
        have ht4 : RtAt w4 w3.heap.size (x, y, z) := by rw [← hw4]; exact heap_alloc_new w3 _
        have HRw4 := Lib.hid hr4
        have c0 := hst4.c0
        have c1 := hst4.c1
        have c2 := hst4.c2
        have d0 := hr4.c0
        have d1 := hr4.c1
        have d2 := hr4.c2
        have k0 := ht4.c0
        have k1 := ht4.c1
        have k2 := ht4.c2
        have f0 : w4.frozen? ⟨w.heap.size + 1, 0, none⟩ = false := frozen_of_row w4 _ 0 _ _ hr4
        have f1 : w4.frozen? ⟨w.heap.size + 1, 1, none⟩ = false := frozen_of_row w4 _ 1 _ _ hr4
        have f2 : w4.frozen? ⟨w.heap.size + 1, 2, none⟩ = false := frozen_of_row w4 _ 2 _ _ hr4
        try simp only [] at c0 c1 c2 d0 d1 d2 k0 k1 k2
        clear hst4 hr4 ht4 hb34 hb3
        have hpz := bstr_size P
        obtain ⟨q, hq⟩ : ∃ q, P.length = q := ⟨_, rfl⟩
        rw [hq] at hpz HN HY
        have hq68 : q ≤ 68 := by rw [← hq, ← hP]; exact putS_len _ _
        clear hP hq
        by_cases hpl : q ≤ l
        · have hsl := slice_to (P := Try.prog) Try.underlying9 (bstr b) (q : Int) q rfl (by omega)
          rw [bstr_extract, List.drop_zero, Nat.sub_zero] at hsl
          by_cases hpt : b.take q = P
          · have HG := Lib.hid (HY.out (by rw [HLL.out]; exact hpl) hpt)
            have hsm := slice_from (P := Try.prog) Try.underlying9 (bstr b) (q : Int) q rfl (by omega)
            rw [bstr_extract, hz, List.take_of_length_le (by rw [List.length_drop, HLL.out]; omega)] at hsm
            rw [hpt] at hsl
            clear hpt HN HY
            go_wp2_with fail
            go_region
            have hfr := set3_row (.int .i64 x) (.int .i64 y) (.int .i64 z) HRw4.out
            have hfb := set3_below (.int .i64 x) (.int .i64 y) (.int .i64 z) HBw4.out (show w.heap.size ≤ w.heap.size + 1 by omega)
            generalize ((w4.setCell ⟨w.heap.size + 1, 0, none⟩ (.int .i64 x)).setCell ⟨w.heap.size + 1, 1, none⟩ (.int .i64 y)).setCell ⟨w.heap.size + 1, 2, none⟩ (.int .i64 z) = w9 at hfr hfb ⊢
            have hfr : RtAt w9.drew (w.heap.size + 1) (x, y, z) := hfr
            have r0 := hfr.c0
            have r1 := hfr.c1
            have r2 := hfr.c2
            have HFB := Lib.hid hfb
            simp only [] at r0 r1 r2
            clear hfr hfb d0 d1 d2 f0 f1 f2 c0 c1 c2 k0 k1 k2
            go_wp2
            refine bodyPost_ret (v := .tuple #[.agg #[.int .i64 x, .int .i64 y, .int .i64 z], .string (bstr (b.drop q)), .bool true]) ?_ rfl ⟨by rw [HG.out], HFB.out.trans ⟨rfl, rfl, rfl, Nat.le_refl _, fun _ _ => rfl⟩⟩
            simp [results, Try.results22, go_sem, r0, r1, r2]
          · have HG := Lib.hid (HN.out (fun h => hpt h.2))
            have hne : ((bstr (b.take q)).toList == (bstr P).toList) = false := by
              rw [beq_eq_false_iff_ne]
              intro h
              apply hpt
              apply bstr_inj
              apply ByteArray.ext
              apply Array.ext'
              rw [ByteArray.toList_eq, ByteArray.toList_eq] at h
              exact h
            clear hpt HN HY
            go_wp2_with fail
            have hfr := set3_row (.int .i64 N) (.int .i64 T) (.int .i64 D) HRw4.out
            have hfb := set3_below (.int .i64 N) (.int .i64 T) (.int .i64 D) HBw4.out (show w.heap.size ≤ w.heap.size + 1 by omega)
            generalize ((w4.setCell ⟨w.heap.size + 1, 0, none⟩ (.int .i64 N)).setCell ⟨w.heap.size + 1, 1, none⟩ (.int .i64 T)).setCell ⟨w.heap.size + 1, 2, none⟩ (.int .i64 D) = w9 at hfr hfb ⊢
            have hfr : RtAt w9 (w.heap.size + 1) (N, T, D) := hfr
            have r0 := hfr.c0
            have r1 := hfr.c1
            have r2 := hfr.c2
            simp only [] at r0 r1 r2
            refine bodyPost_ret (v := .tuple #[.agg #[.int .i64 N, .int .i64 T, .int .i64 D], .string (bstr b), .bool false]) ?_ rfl ⟨by rw [HG.out], hfb⟩
            simp [results, Try.results22, go_sem, r0, r1, r2]
        · exfalso; omega
theorem rget_any (b : List Bool) (s : St) (w : World) (hs : okSt s) (hb : b.length ≤ 1099511627776) :
    Calls Try.prog 22 #[.string (bstr b), .agg #[.int .i64 s.1, .int .i64 s.2.1, .int .i64 s.2.2]] w fun e w' => e = .returned (.tuple #[.agg #[.int .i64 (refG b s).1.1, .int .i64 (refG b s).1.2.1, .int .i64 (refG b s).1.2.2], .string (bstr (refG b s).2.1), .bool (refG b s).2.2]) ∧ Below w.heap.size w w' := by
  by_cases h0 : s.1 = 0
  · exact rget_first b s w h0 hb
  · exact rget_more b s w h0 hs hb
end Go.Proofs.Ytdnipfkpfdglnaa.StW
