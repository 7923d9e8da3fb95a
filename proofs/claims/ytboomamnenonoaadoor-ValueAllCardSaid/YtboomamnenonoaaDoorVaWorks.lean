/-
  alluviumref05.Same, alluviumlaw05.works: THE WALKS.
-/
import Derived.Test.YtboomamnenonoaaDoorVaAll
import Derived.Test.YtboomamnenonoaaDoorEqsVa
namespace Go.Proofs.YtboomamnenonoaaDoor.VaW
set_option linter.unusedVariables false
open Go.RowKit Go.Shelf BitsM BitsW VaM
set_option maxRecDepth 20000 in
set_option maxHeartbeats 2000000 in
theorem rsame_any (A : Option Addr) (n c : Nat) (l : List Nat) (A2 : Option Addr) (n2 c2 : Nat) (l2 : List Nat) (w : World) (hl : Comes w 1 encU okU A n c l) (hl2 : Comes w 1 encU okU A2 n2 c2 l2) :
    Calls Tryd.prog 13 #[.slice A n c, .slice A2 n2 c2] w fun e w' => e = .returned (.bool (decide (l = l2))) ∧ Below w.heap.size w w' := by
  have HL := Lib.hid hl
  have HL2 := Lib.hid hl2
  have hcap : c ≤ 9223372036854775807 := hl.cap
  have hle := hl.le
  have hcap2 : c2 ≤ 9223372036854775807 := hl2.cap
  have hle2 := hl2.le
  clear hl hl2
  by_cases hnn : n = n2
  · subst hnn
    go_enter Tryd.func13, Tryd.ntmps13
    go_wp2_with fail
    go_loopw [5] (fun v5 wr => ∃ k : Nat, k ≤ n ∧ v5 = .int .i64 k ∧ l.take k = l2.take k ∧ Below w.heap.size w wr) (fun v5 _ => n - (intOf v5).toNat)
    case atStart => exact ⟨0, Nat.zero_le _, rfl, rfl, Below.refl _ _⟩
    case round =>
      obtain ⟨k, hk, rfl, ht, ho⟩ := hrel
      have hln := HL.out.len
      have hln2 := HL2.out.len
      by_cases hlt : k < n
      · have hkl : k < l.length := by omega
        have hkl2 : k < l2.length := by omega
        obtain ⟨b, o, rfl, hcs⟩ := u_cells HL.out.lies hkl
        obtain ⟨b2, o2, rfl, hcs2⟩ := u_cells HL2.out.lies hkl2
        have hc0 := hcs _ ho
        have hd0 := hcs2 _ ho
        have hs1 := take_snocL l k hkl
        have hs2 := take_snocL l2 k hkl2
        generalize l[k] = x at *
        generalize l2[k] = y at *
        have HO := Lib.hid ho
        have HT := Lib.hid ht
        rw [← ht] at hs2
        have HS := Lib.hid (And.intro hs1 hs2)
        clear hs1 hs2
        have i0 : (0 : Int) ≤ (k : Int) := by omega
        have i1 : (k : Int) < (n : Int) := by omega
        clear ho hln hcs hcs2 hln2
        by_cases hxy : x = y
        · subst hxy
          clear ht
          go_wp2_with fail
          go_quiet (fail)
          go_wp2_with fail
          go_roundw
          case rel => exact ⟨k + 1, by omega, by go_num, by rw [HS.out.1, HS.out.2, HT.out], HO.out.trans ⟨rfl, rfl, rfl, Nat.le_refl _, fun _ _ => rfl⟩⟩
          case measure => simp [intOf]; omega
        · have hno : l ≠ l2 := by
            intro e
            have h1 := HS.out.1; have h2 := HS.out.2
            rw [e] at h1
            rw [h1, ht] at h2
            have := List.append_cancel_left h2
            simp at this
            exact hxy this
          have HX := Lib.hid hno
          have hne : ((x : Int) != (y : Int)) = true := by simp; omega
          clear hno ht hxy
          go_wp2_with fail
          go_quiet (fail)
          go_wp2_with fail
          go_ret
          exact ⟨by rw [decide_eq_false HX.out]; rfl, HO.out.trans ⟨rfl, rfl, rfl, Nat.le_refl _, fun _ _ => rfl⟩⟩
      · obtain rfl : k = n := by omega
        rw [List.take_of_length_le (by omega), List.take_of_length_le (by omega)] at ht
        have HO := Lib.hid (And.intro ho ht)
        clear ho ht hln hln2
        go_wp2_with fail
        go_ret
        exact ⟨by rw [decide_eq_true HO.out.2]; rfl, HO.out.1⟩
  · have hno : l ≠ l2 := by
      intro e; apply hnn; rw [← HL.out.len, ← HL2.out.len, e]
    have HX := Lib.hid hno
    have hni : ¬ ((n : Int) = (n2 : Int)) := by omega
    have hne2 : ((n : Int) != (n2 : Int)) = true := by simpa using hni
    clear hni
    clear hno hnn
    go_enter Tryd.func13, Tryd.ntmps13
    go_wp2_with fail
    go_ret
    exact ⟨by rw [decide_eq_false HX.out]; rfl, Below.refl _ _⟩
def exL : List Nat := [7, 7, 5]
theorem ex_ok : ∀ t ∈ exL, okU t := by unfold exL okU; simp
theorem ex_read : readB (unpack (pack (bitsV v0 exL))) 3 = some exL := read_back exL ex_ok (by unfold exL; simp)
theorem Comes.three (w : World) (a b c : Nat) (ha : okU a) (hb : okU b) (hc : okU c) {g : Nat} (h : w.heap[g]? = some (.cells #[.int .u64 (a : Int), .int .u64 (b : Int), .int .u64 (c : Int)] 29 (0, 0))) : Comes w 1 encU okU (some ⟨g, 0, none⟩) 3 3 [a, b, c] :=
  Comes.block h rfl (fun _ => rfl) rfl (Nat.le_refl _) (by unfold maxLen; omega) (fun x hx => by simp at hx; rcases hx with rfl | rfl | rfl <;> assumption)
theorem ex_one : aftV v0 7 = (1, 7, 64, 0) ∧ aftV (1, 7, 64, 0) 7 = (2, 7, 64, 0) ∧ aftV (2, 7, 64, 0) 5 = (3, 5, 62, 1) ∧ (putV v0 7).length = 64 ∧ (putV (1, 7, 64, 0) 7).length = 1 ∧ (putV (2, 7, 64, 0) 5).length = 15 := by decide +kernel
theorem packed_size (l : List Nat) : (⟨(pack (bitsV v0 l)).toArray⟩ : ByteArray).size ≤ 10 * l.length + 1 := by
  have h := bitsV_len v0 l
  simp only [ByteArray.size, List.size_toArray, pack_length]; omega
set_option maxRecDepth 20000 in
set_option maxHeartbeats 4000000 in
theorem works_any (w : World) (hT : Tab w) : Calls Tryd.prog 8 #[] w fun e w' => e = .returned (.bool true) ∧ Below w.heap.size w w' := by
  have HE := Lib.hid ex_one
  have HTT : Hid (∀ W, Below w.heap.size w W → Tab W) := Lib.hid fun W h => hT.later h
  clear hT
  go_enter Tryd.func8, Tryd.ntmps8
  go_wp2_with fail
  refine (newWriter_any _).mono ?_
  rintro e w1 ⟨rfl, hw1, hb1, hz1⟩
  have HP1 := Lib.hid (PM.start hw1)
  have HB1 := Lib.hid hb1
  clear hw1 hb1 hz1
  go_wp2_with fail
  refine (PM.val HP1.out (by simp) v0 7 okV0 (by omega) (by simp [v0]) (HTT.out _ HB1.out)).mono ?_
  rintro e w2 ⟨rfl, p2⟩
  rw [HE.out.1]
  have HP2 := Lib.hid (p2.alloc (VaObj (1, 7, 64, 0)))
  clear p2 HP1
  go_wp2_with fail
  obtain ⟨wA, hwA⟩ : ∃ wA, w2.alloc (VaObj (1, 7, 64, 0)) = wA := ⟨_, rfl⟩
  rw [hwA] at HP2
  change Calls _ _ _ (w2.alloc (VaObj (1, 7, 64, 0))) _
  rw [hwA]
  have HSA := Lib.hid (show w2.heap.size < wA.heap.size by rw [← hwA]; simp)
  clear hwA
  refine HP2.out.len.mono ?_
  rintro e w' ⟨rfl, rfl⟩
  rw [List.nil_append, HE.out.2.2.2.1]
  have hst : VaAt wA w2.heap.size (1, 7, 64, 0) := HP2.out.at_ (by simp)
  have c0 := hst.c0
  have c1 := hst.c1
  have c2 := hst.c2
  have c3 := hst.c3
  simp only [] at c0 c1 c2 c3
  go_wp2_with fail
  refine (PM.val HP2.out (by rw [List.nil_append, HE.out.2.2.2.1]; omega) (1, 7, 64, 0) 7 ⟨by show (7:Nat) < _; omega, .inl ⟨rfl, rfl⟩⟩ (by omega) (by simp) (HTT.out _ (HP2.out.since HB1.out (Nat.le_refl _)))).mono ?_
  rintro e w3 ⟨rfl, p3⟩
  rw [HE.out.2.1]
  have HP3 := Lib.hid (p3.alloc (VaObj (2, 7, 64, 0)))
  clear p3 hst c0 c1 c2 c3 HP2
  go_wp2_with fail
  obtain ⟨wB, hwB⟩ : ∃ wB, w3.alloc (VaObj (2, 7, 64, 0)) = wB := ⟨_, rfl⟩
  rw [hwB] at HP3
  change Calls _ _ _ (w3.alloc (VaObj (2, 7, 64, 0))) _
  rw [hwB]
  clear hwB
  refine HP3.out.len.mono ?_
  rintro e w' ⟨rfl, rfl⟩
  rw [List.nil_append, List.length_append, HE.out.2.2.2.1, HE.out.2.2.2.2.1]
  have hst : VaAt wB w3.heap.size (2, 7, 64, 0) := HP3.out.at_ (by simp)
  have c0 := hst.c0
  have c1 := hst.c1
  have c2 := hst.c2
  have c3 := hst.c3
  simp only [] at c0 c1 c2 c3
  go_wp2_with fail
  refine (PM.val HP3.out (by rw [List.nil_append, List.length_append, HE.out.2.2.2.1, HE.out.2.2.2.2.1]; omega) (2, 7, 64, 0) 5 ⟨by show (7:Nat) < _; omega, .inl ⟨rfl, rfl⟩⟩ (by omega) (by simp) (HTT.out _ (HP3.out.since HB1.out (Nat.le_refl _)))).mono ?_
  rintro e w4 ⟨rfl, p4⟩
  rw [HE.out.2.2.1]
  have HP4 := Lib.hid (p4.alloc (VaObj (3, 5, 62, 1)))
  clear p4 hst c0 c1 c2 c3 HP3
  go_wp2_with fail
  have hx : ((w4.alloc (VaObj (3, 5, 62, 1))).alloc (.cells #[.int .u64 7, .int .u64 7, .int .u64 5] 29 (0, 0))).heap[w4.heap.size + 1]? = some (.cells #[.int .u64 7, .int .u64 7, .int .u64 5] 29 (0, 0)) := by
    rw [← box_v w4 (3, 5, 62, 1)]; exact heap_alloc_new _ _
  have hc := Comes.three _ 7 7 5 (by unfold okU; omega) (by unfold okU; omega) (by unfold okU; omega) hx
  have hP4 := HP4.out.alloc (.cells #[.int .u64 7, .int .u64 7, .int .u64 5] 29 (0, 0))
  refine (all_any _ 3 3 exL _ hc (by omega) (HTT.out _ (hP4.since HB1.out (Nat.le_refl _)))).mono ?_
  rintro e w5 ⟨rfl, hb5⟩
  have HP5 := Lib.hid (hP4.below hb5)
  clear hb5 hx hc hP4 HP4
  go_wp2_with fail
  refine (read_any _ 3 _ (by have h := packed_size exL; have h2 : exL.length = 3 := rfl; omega) (HTT.out _ (HP5.out.since HB1.out (Nat.le_refl _)))).mono ?_
  rintro e w6 ⟨A, k, c, rfl, hcm, hb6⟩
  rw [show readB (unpack (⟨(pack (bitsV v0 exL)).toArray⟩ : ByteArray).data.toList) 3 = some exL from ex_read] at hcm ⊢
  have HP6 := Lib.hid (HP5.out.below hb6)
  have HCM := Lib.hid hcm
  have hst : VaAt w6 w2.heap.size (1, 7, 64, 0) := HP6.out.at_ (by simp)
  have c0 := hst.c0
  have c1 := hst.c1
  have c2 := hst.c2
  have c3 := hst.c3
  simp only [] at c0 c1 c2 c3
  clear hb6 hst hcm HP5
  go_wp2_with fail
  refine (cost_any (1, 7, 64, 0) 7 _ ⟨by show (7:Nat) < _; omega, .inl ⟨rfl, rfl⟩⟩ (by omega) (HTT.out _ (HP6.out.since HB1.out (Nat.le_refl _)))).mono ?_
  rintro e w7 ⟨rfl, hb7⟩
  rw [HE.out.2.2.2.2.1]
  have HP7 := Lib.hid (HP6.out.below hb7)
  have HCM7 := Lib.hid (HCM.out.later hb7)
  have hst : VaAt w7 w4.heap.size (3, 5, 62, 1) := HP7.out.at_ (by simp)
  have d0 := hst.c0
  have d1 := hst.c1
  have d2 := hst.c2
  have d3 := hst.c3
  simp only [] at d0 d1 d2 d3
  have hq := eql_Va 3 3 5 5 62 62 1 1
  have hg := guard_Va
  have e4 : sameVa 3 3 5 5 62 62 1 1 = true := by decide
  rw [e4] at hq
  clear hb7 hst HP6 HCM c0 c1 c2 c3 e4
  go_wp2_with fail
  refine HP7.out.len.mono ?_
  rintro e w' ⟨rfl, rfl⟩
  rw [List.nil_append, List.length_append, List.length_append, HE.out.2.2.2.1, HE.out.2.2.2.2.1, HE.out.2.2.2.2.2]
  clear d0 d1 d2 d3 hq hg
  go_wp2_with fail
  have hx := heap_alloc_new w7 (.cells #[.int .u64 7, .int .u64 7, .int .u64 5] 29 (0, 0))
  have hc := Comes.three _ 7 7 5 (by unfold okU; omega) (by unfold okU; omega) (by unfold okU; omega) hx
  have hA : Below w7.heap.size w7 (w7.alloc (.cells #[.int .u64 7, .int .u64 7, .int .u64 5] 29 (0, 0))) := (Below.refl _ _).alloc (Nat.le_refl _) _
  refine (rsame_any A k c exL _ 3 3 exL _ (HCM7.out.later hA) hc).mono ?_
  rintro e w8 ⟨rfl, hb8⟩
  have HP8 := Lib.hid ((HP7.out.below hA).below hb8)
  rw [decide_eq_true rfl]
  have hst : VaAt w8 w2.heap.size (1, 7, 64, 0) := HP8.out.at_ (by simp)
  have c0 := hst.c0
  have c1 := hst.c1
  have c2 := hst.c2
  have c3 := hst.c3
  simp only [] at c0 c1 c2 c3
  clear hb8 hA hc hx hst HP7 HCM7
  go_wp2_with fail
  refine (valid_ok (1, 7, 64, 0) _ ⟨by show (7:Nat) < _; omega, .inl ⟨rfl, rfl⟩⟩).mono ?_
  rintro e w9 ⟨rfl, hb9⟩
  have HP9 := Lib.hid (HP8.out.below hb9)
  clear hb9 HP8 c0 c1 c2 c3
  go_wp2_with fail
  refine (valid_any 0 0 63 1 _ (by omega)).mono ?_
  rintro e w10 ⟨rfl, hb10⟩
  have HB := Lib.hid ((HP9.out.below hb10).since HB1.out (Nat.le_refl _))
  rw [show validB 0 63 1 = false by decide]
  clear hb10 HP9
  go_wp2
  go_ret
  exact ⟨rfl, HB.out⟩
end Go.Proofs.YtboomamnenonoaaDoor.VaW
