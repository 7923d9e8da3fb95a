/-
  alluviumref04.Same, alluviumlaw04.works: THE WALKS.
-/
import Derived.Test.YtdnipfkpfdglnaaStAll
import Derived.Test.YtdnipfkpfdglnaaEqsSt
namespace Go.Proofs.Ytdnipfkpfdglnaa.StW
open Go.RowKit Go.Shelf BitsM BitsW StM
set_option maxRecDepth 20000 in
set_option maxHeartbeats 2000000 in
theorem rsame_any (A : Option Addr) (n c : Nat) (l : List Int) (A2 : Option Addr) (n2 c2 : Nat) (l2 : List Int) (w : World) (hl : Comes w 1 encI okI A n c l) (hl2 : Comes w 1 encI okI A2 n2 c2 l2) :
    Calls Try.prog 29 #[.slice A n c, .slice A2 n2 c2] w fun e w' => e = .returned (.bool (decide (l = l2))) ∧ Below w.heap.size w w' := by
  have HL := Lib.hid hl
  have HL2 := Lib.hid hl2
  have hcap : c ≤ 9223372036854775807 := hl.cap
  have hle := hl.le
  have hcap2 : c2 ≤ 9223372036854775807 := hl2.cap
  have hle2 := hl2.le
  clear hl hl2
  by_cases hnn : n = n2
  · subst hnn
    go_enter Try.func29, Try.ntmps29
    go_wp2_with fail
    go_loopw [5] (fun v5 wr => ∃ k : Nat, k ≤ n ∧ v5 = .int .i64 k ∧ l.take k = l2.take k ∧ Below w.heap.size w wr) (fun v5 _ => n - (intOf v5).toNat)
    case atStart => exact ⟨0, Nat.zero_le _, rfl, rfl, Below.refl _ _⟩
    case round =>
      obtain ⟨k, hk, rfl, ht, ho⟩ := hrel
      have hln := HL.out.len
      have hln2 := HL2.out.len
      by_cases hlt : k < n
      · have hkl : k < l.length := by omega
        have hkl2 : k < l2.length := by omega
        obtain ⟨b, o, rfl, hcs⟩ := int_cells HL.out.lies hkl
        obtain ⟨b2, o2, rfl, hcs2⟩ := int_cells HL2.out.lies hkl2
        have hc0 := hcs _ ho
        have hd0 := hcs2 _ ho
        have hs1 := take_snocL l k hkl
        have hs2 := take_snocL l2 k hkl2
        generalize l[k] = x at *
        generalize l2[k] = y at *
        have HO := Lib.hid ho
        have HT := Lib.hid ht
        rw [← ht] at hs2
        have HS := Lib.hid (And.intro hs1 hs2)
        clear hs1 hs2
        have i0 : (0 : Int) ≤ (k : Int) := by omega
        have i1 : (k : Int) < (n : Int) := by omega
        clear ho hln hcs hcs2 hln2
        by_cases hxy : x = y
        · subst hxy
          clear ht
          go_wp2_with fail
          go_quiet (fail)
          go_wp2_with fail
          go_roundw
          case rel => exact ⟨k + 1, by omega, by go_num, by rw [HS.out.1, HS.out.2, HT.out], HO.out.trans ⟨rfl, rfl, rfl, Nat.le_refl _, fun _ _ => rfl⟩⟩
          case measure => simp [intOf]; omega
        · have hno : l ≠ l2 := by
            intro e
            have h1 := HS.out.1; have h2 := HS.out.2
            rw [e] at h1
            rw [h1, ht] at h2
            have := List.append_cancel_left h2
            simp at this
            exact hxy this
          have HX := Lib.hid hno
          have hne : (x != y) = true := by simpa using hxy
          clear hno ht hxy
          go_wp2_with fail
          go_quiet (fail)
          go_wp2_with fail
          go_ret
          exact ⟨by rw [decide_eq_false HX.out]; rfl, HO.out.trans ⟨rfl, rfl, rfl, Nat.le_refl _, fun _ _ => rfl⟩⟩
      · obtain rfl : k = n := by omega
        rw [List.take_of_length_le (by omega), List.take_of_length_le (by omega)] at ht
        have HO := Lib.hid (And.intro ho ht)
        clear ho ht hln hln2
        go_wp2_with fail
        go_ret
        exact ⟨by rw [decide_eq_true HO.out.2]; rfl, HO.out.1⟩
  · have hno : l ≠ l2 := by
      intro e; apply hnn; rw [← HL.out.len, ← HL2.out.len, e]
    have HX := Lib.hid hno
    have hni : ¬ ((n : Int) = (n2 : Int)) := by omega
    have hne2 : ((n : Int) != (n2 : Int)) = true := by simpa using hni
    clear hni
    clear hno hnn
    go_enter Try.func29, Try.ntmps29
    go_wp2_with fail
    go_ret
    exact ⟨by rw [decide_eq_false HX.out]; rfl, Below.refl _ _⟩
/-- What was put is got. -/
theorem read_back (l : List Int) (hl : ∀ t ∈ l, okI t) (hn : l.length ≤ 10000) : readB (unpack (pack (bitsAll s0 l))) (l.length : Int) = some l := by
  unfold readB
  rw [if_neg (by omega), Int.toNat_natCast, unpack_pack, read_all s0 l _ (show okSt (0, 0, 0) by unfold okSt okI; simp) hl]
  show (if cleanB (zeros _) = true then some l else none) = some l
  rw [if_pos]
  unfold cleanB
  rw [zeros_all, Bool.true_and]
  simp [zeros]; omega
/-- Nothing else is read. -/
theorem read_only (B : ByteArray) (n : Int) (l : List Int) (h : readB (unpack B.data.toList) n = some l) : (⟨(pack (bitsAll s0 l)).toArray⟩ : ByteArray) = B ∧ (l.length : Int) = n ∧ (∀ t ∈ l, okI t) ∧ l.length ≤ 10000 := by
  unfold readB at h
  split at h
  · cases h
  rename_i hn
  cases hr : readS (unpack B.data.toList) n.toNat s0 with
  | none => rw [hr] at h; cases h
  | some x =>
    obtain ⟨l', r⟩ := x
    rw [hr] at h
    change (if cleanB r = true then some l' else none) = some l at h
    split at h
    · rename_i hc
      injection h with h
      subst h
      obtain ⟨h1, h2, h3⟩ := all_read _ _ _ _ _ (show okSt (0, 0, 0) by unfold okSt okI; simp) hr
      have := pack_clean _ _ _ h2 hc
      have e0 : bitsAll s0 l' = bitsAll (0, 0, 0) l' := rfl
      exact ⟨by rw [e0, this], by omega, h3, by omega⟩
    · cases h
theorem read_any (B : ByteArray) (n : Int) (w : World) (hs : B.size ≤ 68719476736) :
    Calls Try.prog 25 #[.string B, .int .i64 n] w fun e w' => ∃ A k c, e = .returned (.tuple #[.slice A k c, .bool (readB (unpack B.data.toList) n).isSome]) ∧ Comes w' 1 encI okI A k c ((readB (unpack B.data.toList) n).getD []) ∧ Below w.heap.size w w' := by
  have hok : ∀ x ∈ (readB (unpack B.data.toList) n).getD [], okI x := by
    intro x hx
    cases h : readB (unpack B.data.toList) n with
    | none => rw [h] at hx; simp at hx
    | some l =>
      rw [h] at hx
      exact (read_only B n l h).2.2.1 x hx
  by_cases h : n < 0 ∨ 10000 < n
  · refine (read_far B n w h).mono ?_
    rintro e w' ⟨rfl, hb⟩
    have e1 : readB (unpack B.data.toList) n = none := by unfold readB; rw [if_pos h]
    rw [e1]
    exact ⟨_, _, _, rfl, Comes.nil _ _ _ _, hb⟩
  · obtain ⟨m, rfl⟩ : ∃ m : Nat, n = m := ⟨n.toNat, by omega⟩
    refine (read_near B m w hs (by omega)).mono ?_
    rintro e w' ⟨v, rfl, hown, hb⟩
    obtain ⟨A, c, rfl, -, hc⟩ := Comes.of_own hown (fun _ => rfl) (by decide) hok
    exact ⟨_, _, _, rfl, hc, hb⟩
def exL : List Int := [1000, 1010, 1020]
theorem ex_ok : ∀ t ∈ exL, okI t := by unfold exL okI; simp
theorem ex_read : readB (unpack (pack (bitsAll s0 exL))) 3 = some exL := read_back exL ex_ok (by unfold exL; simp)
theorem Comes.three (w : World) (a b c : Int) (ha : okI a) (hb : okI b) (hc : okI c) {g : Nat} (h : w.heap[g]? = some (.cells #[.int .i64 a, .int .i64 b, .int .i64 c] 2 (0, 0))) : Comes w 1 encI okI (some ⟨g, 0, none⟩) 3 3 [a, b, c] :=
  Comes.block h rfl (fun _ => rfl) rfl (Nat.le_refl _) (by unfold maxLen; omega) (fun x hx => by simp at hx; rcases hx with rfl | rfl | rfl <;> assumption)
set_option maxRecDepth 20000 in
set_option maxHeartbeats 4000000 in
theorem works_any (w : World) : Calls Try.prog 10 #[] w fun e w' => e = .returned (.bool true) ∧ Below w.heap.size w w' := by
  have e1 : aftS (0, 0, 0) 1000 = (1, 1000, 0) := by decide +kernel
  have e2 : aftS (1, 1000, 0) 1010 = (2, 1010, 10) := by decide +kernel
  have l1 : (putS (0, 0, 0) 1000).length = 64 := msb_length _ _
  have l2 : (putS (1, 1000, 0) 1010).length = 9 := by decide +kernel
  have l3 : (putS (2, 1010, 10) 1020).length = 1 := by decide +kernel
  have HE := Lib.hid (And.intro e1 (And.intro e2 (And.intro l1 (And.intro l2 l3))))
  clear e1 e2 l1 l2 l3
  go_enter Try.func10, Try.ntmps10
  go_wp2_with fail
  refine (newWriter_any _).mono ?_
  rintro e w1 ⟨rfl, hw1, hb1, hz1⟩
  have HP1 := Lib.hid (PM.start hw1)
  have HB1 := Lib.hid hb1
  clear hw1 hb1 hz1
  go_wp2_with fail
  refine (PM.time HP1.out (by simp) (0, 0, 0) 1000).mono ?_
  rintro e w2 ⟨rfl, p2⟩
  rw [HE.out.1]
  have HP2 := Lib.hid (p2.alloc (StObj (1, 1000, 0)))
  clear p2
  go_wp2_with fail
  obtain ⟨wA, hwA⟩ : ∃ wA, w2.alloc (StObj (1, 1000, 0)) = wA := ⟨_, rfl⟩
  rw [hwA] at HP2
  change Calls _ _ _ (w2.alloc (StObj (1, 1000, 0))) _
  rw [hwA]
  clear hwA
  refine HP2.out.len.mono ?_
  rintro e w' ⟨rfl, rfl⟩
  rw [List.nil_append, HE.out.2.2.1]
  have hst : StAt wA w2.heap.size (1, 1000, 0) := HP2.out.at_ (by simp)
  have c0 := hst.c0
  have c1 := hst.c1
  have c2 := hst.c2
  go_wp2_with fail
  refine (PM.time HP2.out (by rw [List.nil_append, HE.out.2.2.1]; omega) (1, 1000, 0) 1010).mono ?_
  rintro e w3 ⟨rfl, p3⟩
  rw [HE.out.2.1]
  have hst3 : StAt w3 w2.heap.size (1, 1000, 0) := p3.at_ (by simp)
  have HP3 := Lib.hid (p3.setOne #[.int .i64 2, .int .i64 1010, .int .i64 10])
  clear p3 hst c0 c1 c2
  go_wp2_with (refine wpList_store_row rfl 23 _ _ rfl w2.heap.size #[.int .i64 2, .int .i64 1010, .int .i64 10] rfl rfl 23 _ hst3 info_st rfl (by simp [Value.oneCell']) ?_; clear hst3; generalize w3.setRow w2.heap.size #[.int .i64 2, .int .i64 1010, .int .i64 10] = w4 at HP3 ⊢)
  refine HP3.out.len.mono ?_
  rintro e w' ⟨rfl, rfl⟩
  rw [List.nil_append, List.length_append, HE.out.2.2.1, HE.out.2.2.2.1]
  have hst4 : StAt w4 w2.heap.size (2, 1010, 10) := HP3.out.at_ (by simp [StObj])
  have c0 := hst4.c0
  have c1 := hst4.c1
  have c2 := hst4.c2
  go_wp2_with fail
  refine (cost_any (2, 1010, 10) 1020 _).mono ?_
  rintro e w5 ⟨rfl, hb5⟩
  rw [HE.out.2.2.2.2]
  have HP5 := Lib.hid (HP3.out.below hb5)
  have HB5 := Lib.hid ((HP3.out.below hb5).since HB1.out (Nat.le_refl _))
  clear hb5 c0 c1 c2 hst4
  go_wp2_with fail
  have hx := heap_alloc_new w5 (.cells #[.int .i64 1000, .int .i64 1010, .int .i64 1020] 2 (0, 0))
  have hc := Comes.three _ 1000 1010 1020 (by unfold okI; omega) (by unfold okI; omega) (by unfold okI; omega) hx
  refine (all_any _ 3 3 exL _ hc (by omega)).mono ?_
  rintro e w6 ⟨rfl, hb6⟩
  have hb56 : Below w5.heap.size w5 w6 := ((Below.refl _ _).alloc (Nat.le_refl _) _).trans (hb6.mono (by simp))
  have HP6 := Lib.hid (HP5.out.below hb56)
  have HB6 := Lib.hid (later HB5.out hb56)
  clear hb6 hb56 hx hc HP5 HB5
  go_wp2_with fail
  refine (read_any _ 3 _ (by have h := bitsAll_len s0 exL; have h2 : exL.length = 3 := rfl; simp only [ByteArray.size, List.size_toArray, pack_length]; omega)).mono ?_
  rintro e w7 ⟨A, k, c, rfl, hcm, hb7⟩
  rw [show readB (unpack (⟨(pack (bitsAll s0 exL)).toArray⟩ : ByteArray).data.toList) 3 = some exL from ex_read] at hcm ⊢
  have hst7 : StAt w7 w2.heap.size (2, 1010, 10) := (HP6.out.below hb7).at_ (by simp [StObj])
  have c0 := hst7.c0
  have c1 := hst7.c1
  have c2 := hst7.c2
  have HB7 := Lib.hid (later HB6.out hb7)
  have HCM := Lib.hid hcm
  have hq := eql_St 2 2 1010 1010 10 10
  have hg := guard_St
  have e4 : sameSt 2 2 1010 1010 10 10 = true := by decide
  rw [e4] at hq
  clear hb7 hst7 hcm HP6 HB6 HP3 HP2 HP1 e4
  go_wp2_with fail
  have hx := heap_alloc_new w7 (.cells #[.int .i64 1000, .int .i64 1010, .int .i64 1020] 2 (0, 0))
  have hc := Comes.three _ 1000 1010 1020 (by unfold okI; omega) (by unfold okI; omega) (by unfold okI; omega) hx
  have hA : Below w7.heap.size w7 (w7.alloc (.cells #[.int .i64 1000, .int .i64 1010, .int .i64 1020] 2 (0, 0))) := (Below.refl _ _).alloc (Nat.le_refl _) _
  refine (rsame_any A k c exL _ 3 3 exL _ (HCM.out.later hA) hc).mono ?_
  rintro e w8 ⟨rfl, hb8⟩
  have HB8 := Lib.hid (later (later HB7.out hA) hb8)
  rw [decide_eq_true rfl]
  clear hb8 hA hc hx
  go_wp2
  go_ret
  exact ⟨rfl, HB8.out⟩
end Go.Proofs.Ytdnipfkpfdglnaa.StW
