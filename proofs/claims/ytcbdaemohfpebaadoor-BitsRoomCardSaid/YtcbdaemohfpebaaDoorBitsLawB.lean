/-
  BitsBack: THE WALK.
-/
import Derived.Test.YtcbdaemohfpebaaDoorBitsLawR
import Derived.Test.YtcbdaemohfpebaaDoorBitsMath3
namespace Go.Proofs.YtcbdaemohfpebaaDoor.BitsW
open Go.RowKit Go.Shelf BitsM
theorem bitsOf_append (l m : List (Nat × Int)) : bitsOf (l ++ m) = bitsOf l ++ bitsOf m := by simp [bitsOf]
theorem bitsOf_split (l : List (Nat × Int)) (k : Nat) (h : k < l.length) : bitsOf l = bitsOf (l.take k) ++ msb l[k].1 (within l[k].2) ++ bitsOf (l.drop (k + 1)) := by
  rw [← bitsOf_snoc, ← take_snocL l k h, ← bitsOf_append, List.take_append_drop]
/-- What is got is what was put. -/
theorem back_got (l : List (Nat × Int)) (k : Nat) (h : k < l.length) : (((unpack (pack (bitsOf l))).drop (bitsOf (l.take k)).length).take (within l[k].2)) = msb l[k].1 (within l[k].2) := by
  rw [unpack_pack, bitsOf_split l k h, List.append_assoc]
  have e := mid_take (bitsOf (l.take k)) (msb l[k].1 (within l[k].2)) (bitsOf (l.drop (k + 1)) ++ zeros (8 * (((bitsOf (l.take k) ++ msb l[k].1 (within l[k].2) ++ bitsOf (l.drop (k + 1))).length + 7) / 8) - (bitsOf (l.take k) ++ msb l[k].1 (within l[k].2) ++ bitsOf (l.drop (k + 1))).length))
  rw [msb_length] at e
  exact e
theorem back_left (l : List (Nat × Int)) (k : Nat) (h : k < l.length) : (bitsOf (l.take k)).length + within l[k].2 ≤ (bitsOf l).length := by
  have := congrArg List.length (bitsOf_split l k h)
  rw [List.length_append, List.length_append, msb_length] at this
  omega
theorem back_clean (b : List Bool) : cleanB ((unpack (pack b)).drop b.length) = true := by
  rw [unpack_pack, List.drop_left]
  unfold cleanB
  rw [zeros_all, Bool.true_and]
  simp [zeros]; omega
set_option maxRecDepth 100000 in
set_option maxHeartbeats 1000000 in
theorem bitsBack_far (A : Option Addr) (n c : Nat) (l : List (Nat × Int)) (w : World) (hl : Comes w 2 encPut okPut A n c l) (hT : Tab w) (h60 : 60 < n) :
    Calls Tryd.prog 6 #[.slice A n c] w fun e w' => e = .returned (.bool true) ∧ Below w.heap.size w w' := by
  have HT := Lib.hid hT
  have hcap : c ≤ 9223372036854775807 := hl.cap
  have hle := hl.le
  clear hl hT
  go_enter Tryd.func6, Tryd.ntmps6
  go_wp2_with fail
  refine (works_any _ HT.out).mono ?_
  rintro e w1 ⟨rfl, hb1⟩
  have HB1 := Lib.hid hb1
  clear hb1
  go_wp2_with fail
  refine (newWriter_any _).mono ?_
  rintro e w2 ⟨rfl, hw2, hb2, hz2⟩
  have HB2 := Lib.hid (later HB1.out hb2)
  clear hw2 hb2
  go_wp2_with fail
  go_ret
  exact ⟨rfl, HB2.out⟩
set_option maxRecDepth 100000 in
set_option maxHeartbeats 2000000 in
theorem bitsBack_near (A : Option Addr) (n c : Nat) (l : List (Nat × Int)) (w : World) (hl : Comes w 2 encPut okPut A n c l) (hn : n ≤ 60) (hT : Tab w) :
    Calls Tryd.prog 6 #[.slice A n c] w fun e w' => e = .returned (.bool true) ∧ Below w.heap.size w w' := by
  have HT := Lib.hid hT
  have HL := Lib.hid hl
  have hcap : c ≤ 9223372036854775807 := hl.cap
  have hle := hl.le
  clear hl hT
  go_enter Tryd.func6, Tryd.ntmps6
  go_wp2_with fail
  refine (works_any _ HT.out).mono ?_
  rintro e w1 ⟨rfl, hb1⟩
  have HB1 := Lib.hid hb1
  clear hb1
  go_wp2_with fail
  refine (newWriter_any _).mono ?_
  rintro e w2 ⟨rfl, hw2, hb2, hz2⟩
  have HO := Lib.hid ((One.new hw2 hb2).since HB1.out)
  clear hw2 hb2 hz2
  generalize w1.heap.size = bw at *
  go_wp2_with fail
  go_loopw [5] (fun v5 wr => ∃ k : Nat, k ≤ n ∧ v5 = .int .i64 k ∧ One w wr bw (bitsOf (l.take k))) (fun v5 _ => n - (intOf v5).toNat)
  case atStart => exact ⟨0, Nat.zero_le _, rfl, HO.out⟩
  case round =>
    obtain ⟨k, hk, rfl, ho⟩ := hrel
    have hln := HL.out.len
    by_cases hlt : k < n
    · have hkl : k < l.length := by omega
      obtain ⟨b, o, rfl, hcs⟩ := put_cells HL.out.lies hkl
      have hsn : bitsOf (l.take (k + 1)) = bitsOf (l.take k) ++ msb l[k].1 (within l[k].2) := by rw [take_snocL l k hkl, bitsOf_snoc]
      have hblen : (bitsOf (l.take k)).length ≤ 64 * k := by have := bitsOf_len (l.take k); simp at this; omega
      have hok := HL.out.ok _ (List.getElem_mem hkl)
      generalize l[k] = x at *
      obtain ⟨v, m⟩ := x
      generalize bitsOf (l.take k) = bs at *
      obtain ⟨hc0, hc1⟩ := hcs _ ho.below
      have HS := Lib.hid (And.intro hsn (And.intro hblen hok))
      have HO2 := Lib.hid ho
      have i0 : (0 : Int) ≤ (k : Int) := by omega
      have i1 : (k : Int) < (n : Int) := by omega
      clear hsn hblen hok ho hln hcs
      go_wp2_with fail
      go_still_tail 11, (by kernel_rfl)
      go_wp2_with fail
      have hbl := HS.out.2.1
      refine (HO2.out.drew.put (by omega) (v : Int) m (by omega) (by have := HS.out.2.2.1; omega)).mono ?_
      rintro e w3 ⟨rfl, ho3⟩
      rw [Int.toNat_natCast] at ho3
      have HO3 := Lib.hid ho3
      clear ho3 hc0 hc1 HO2
      go_wp2_with fail
      go_roundw
      case rel => exact ⟨k + 1, by omega, by go_num, by rw [HS.out.1]; exact HO3.out⟩
      case measure => simp [intOf]; omega
    · obtain rfl : k = n := by omega
      rw [List.take_of_length_le (by omega)] at ho
      have hbl := bitsOf_len l
      obtain ⟨q, hq⟩ : ∃ q, (bitsOf l).length = q := ⟨_, rfl⟩
      have hq60 : q ≤ 3840 := by omega
      obtain ⟨sb, hsb⟩ : ∃ sb : ByteArray, (⟨(pack (bitsOf l)).toArray⟩ : ByteArray) = sb := ⟨_, rfl⟩
      have hsz : sb.size = (q + 7) / 8 := by rw [← hsb, ← hq, ← pack_length]; simp [ByteArray.size]
      obtain ⟨z, hz⟩ : ∃ z, sb.size = z := ⟨_, rfl⟩
      have hzz : (q + 7) / 8 = z := by omega
      have hun : unpack sb.data.toList = unpack (pack (bitsOf l)) := by rw [← hsb]
      have HO2 := Lib.hid ho
      have HQ := Lib.hid (And.intro hq (And.intro hsb (And.intro hun hzz)))
      clear ho hbl hq hsb hun hsz hzz hln
      go_wp2_with fail
      refine HO2.out.bytes.mono ?_
      rintro e w' ⟨rfl, rfl⟩
      rw [HQ.out.2.1]
      go_wp2_with fail
      refine (newReader_any _ _).mono ?_
      rintro e w5 ⟨rfl, hw5, hb5, hz5⟩
      have HO5 := Lib.hid (HO2.out.reader hw5 hb5)
      clear hw5 hb5 hz5 HO2
      generalize wr.heap.size = br at *
      go_wp2_with fail
      go_loopw [7] (fun v7 wr => ∃ k' p : Nat, k' ≤ k ∧ v7 = .int .i64 k' ∧ (bitsOf (l.take k')).length = p ∧ p ≤ q ∧ Both w wr bw br (bitsOf l) sb p) (fun v7 _ => k - (intOf v7).toNat)
      case atStart => exact ⟨0, 0, Nat.zero_le _, rfl, rfl, Nat.zero_le _, HO5.out⟩
      case round =>
        obtain ⟨j, p, hj, rfl, hp, hpq, ho⟩ := hrel
        have hln := HL.out.len
        have hzz := HQ.out.2.2.2
        by_cases hlt : j < k
        · have hjl : j < l.length := by omega
          obtain ⟨b, o, rfl, hcs⟩ := put_cells HL.out.lies hjl
          obtain ⟨hc0, hc1⟩ := hcs _ ho.below
          have hgot := back_got l j hjl
          have hlft := back_left l j hjl
          have hsn : bitsOf (l.take (j + 1)) = bitsOf (l.take j) ++ msb l[j].1 (within l[j].2) := by rw [take_snocL l j hjl, bitsOf_snoc]
          have hsl : (bitsOf (l.take (j + 1))).length = p + within l[j].2 := by rw [hsn, List.length_append, hp, msb_length]
          have hok := HL.out.ok _ (List.getElem_mem hjl)
          rw [hp] at hgot hlft
          rw [HQ.out.1] at hlft
          generalize l[j] = x at *
          obtain ⟨v, m⟩ := x
          simp only [] at hgot hlft hsn hsl hc0 hc1
          have hv := hok.1
          have hm64 := within_le m
          have hww : within ((within m : Nat) : Int) = within m := within_within m
          have hcast := within_cast m
          have HG := Lib.hid (And.intro hgot (And.intro hsl hww))
          have HO6 := Lib.hid ho
          have HCT := Lib.hid hcast
          have HC := Lib.hid hcs
          clear hgot hsl hok ho hln hcs hsn hww hcast hp
          have i0 : (0 : Int) ≤ (j : Int) := by omega
          have i1 : (j : Int) < (k : Int) := by omega
          go_wp2_with fail
          rw [← HCT.out]
          refine (get_some br sb p ((within m : Nat) : Int) _ HO6.out.rd (by omega) (by rw [HG.out.2.2]; omega)).mono ?_
          rintro e w6 ⟨rfl, hrd⟩
          rw [HG.out.2.2, HQ.out.2.2.1, HG.out.1, numB_msb]
          rw [HG.out.2.2] at hrd
          have HO7 := Lib.hid (HO6.out.got hrd)
          clear hrd HO6
          clear hc0 hc1
          obtain ⟨hc0, hc1⟩ := HC.out _ HO7.out.below
          obtain ⟨t, htt⟩ : ∃ t, within m = t := ⟨_, rfl⟩
          rw [htt] at hlft hm64 HO7
          rw [htt]
          have HTT := Lib.hid htt
          clear htt
          by_cases ht : t < 64
          · obtain ⟨P, hP⟩ : ∃ P : Nat, 2 ^ t = P := ⟨_, rfl⟩
            have hP0 : (0 : Int) < (P : Int) := by have := Nat.two_pow_pos t; omega
            have hPn : ((P : Int) == 0) = false := by simp; omega
            have hPl : P < 18446744073709551616 := by rw [← hP]; exact Nat.pow_lt_pow_right (by omega) (by omega : t < 64)
            have hPw : IntKind.u64.wrap ((2 : Int) ^ t) = (P : Int) := by
              rw [show ((2 : Int) ^ t) = (P : Int) by rw [← hP]; simp]
              exact IntWalk.u64_in _ (by omega)
            rw [hP]
            clear hP hPl
            go_wp2_with fail
            go_roundw
            case rel => exact ⟨j + 1, p + t, by omega, by go_num, by rw [HG.out.2.1, HTT.out], hlft, HO7.out⟩
            case measure => simp [intOf]; omega
          · obtain rfl : t = 64 := by omega
            rw [Nat.mod_eq_of_lt (show v < 2 ^ 64 from hv)]
            go_wp2_with fail
            go_roundw
            case rel => exact ⟨j + 1, p + 64, by omega, by go_num, by rw [HG.out.2.1, HTT.out], hlft, HO7.out⟩
            case measure => simp [intOf]; omega
        · obtain rfl : j = k := by omega
          rw [List.take_of_length_le (by omega)] at hp
          obtain rfl : q = p := HQ.out.1.symm.trans hp
          have HO6 := Lib.hid ho
          have hcl := back_clean (bitsOf l)
          rw [HQ.out.1] at hcl
          have HCL := Lib.hid hcl
          have hqz : q ≤ 8 * sb.size := by omega
          have hql : ((8 * sb.size - q : Nat) : Int) = 8 * (z : Int) - (q : Int) := by omega
          have HQL := Lib.hid hql
          clear ho hcl hp hql hln
          go_wp2_with fail
          refine (clean_any br sb q _ HO6.out.rd (by omega) hqz).mono ?_
          rintro e w6 ⟨rfl, hb6⟩
          rw [HQ.out.2.2.1, HCL.out]
          have HO7 := Lib.hid (HO6.out.later hb6)
          clear hb6
          go_wp2_with fail
          refine (left_below br sb q _ HO7.out.rd (by omega) hqz).mono ?_
          rintro e w7 ⟨rfl, hb7, -⟩
          have HO8 := Lib.hid (HO7.out.later hb7)
          clear hb7
          rw [HQL.out]
          go_wp2_with fail
          refine HO8.out.one.bytes.mono ?_
          rintro e w' ⟨rfl, rfl⟩
          rw [HQ.out.2.1]
          go_wp2_with fail
          refine HO8.out.one.len.mono ?_
          rintro e w' ⟨rfl, rfl⟩
          rw [HQ.out.1]
          go_wp2_with fail
          go_ret
          exact ⟨rfl, HO8.out.below⟩
end Go.Proofs.YtcbdaemohfpebaaDoor.BitsW
