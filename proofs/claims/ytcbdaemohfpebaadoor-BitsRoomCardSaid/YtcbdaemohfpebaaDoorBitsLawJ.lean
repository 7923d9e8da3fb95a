/-
  BitsJoin: THE WALK.
-/
import Derived.Test.YtcbdaemohfpebaaDoorBitsLawP
namespace Go.Proofs.YtcbdaemohfpebaaDoor.BitsW
open Go.RowKit Go.Shelf BitsM
theorem Pair.drew {w W : World} {ba bb : Nat} {x y : List Bool} (h : Pair w W ba bb x y) : Pair w W.drew ba bb x y := h.later ⟨rfl, rfl, rfl, Nat.le_refl _, fun _ _ => rfl⟩
theorem Pair.drewN {w W : World} {ba bb : Nat} {x y : List Bool} (h : Pair w W ba bb x y) (n : Nat) : Pair w (W.drewN n) ba bb x y := h.later ⟨rfl, rfl, rfl, Nat.le_refl _, fun _ _ => rfl⟩
set_option maxRecDepth 100000 in
set_option maxHeartbeats 1000000 in
theorem bitsJoin_far (v N K : Nat) (A : Option Addr) (n c : Nat) (l : List (Nat × Int)) (w : World) (hl : Comes w 2 encPut okPut A n c l) (hT : Tab w) (h60 : 60 < n) :
    Calls Tryd.prog 7 #[.int .u64 v, .int .u8 N, .int .u8 K, .slice A n c] w fun e w' => e = .returned (.bool true) ∧ Below w.heap.size w w' := by
  have HT := Lib.hid hT
  have hcap : c ≤ 9223372036854775807 := hl.cap
  have hle := hl.le
  clear hl hT
  go_enter Tryd.func7, Tryd.ntmps7
  go_wp2_with fail
  refine (works_any _ HT.out).mono ?_
  rintro e w1 ⟨rfl, hb1⟩
  have HB1 := Lib.hid hb1
  clear hb1
  go_wp2_with fail
  refine (newWriter_any _).mono ?_
  rintro e w2 ⟨rfl, hw2, hb2, hz2⟩
  have HB2 := Lib.hid (later HB1.out hb2)
  clear hw2 hb2
  go_wp2_with fail
  refine (newWriter_any _).mono ?_
  rintro e w3 ⟨rfl, hw3, hb3, hz3⟩
  have HB3 := Lib.hid (later HB2.out hb3)
  clear hw3 hb3
  go_wp2_with fail
  go_ret
  exact ⟨rfl, HB3.out⟩
set_option maxRecDepth 100000 in
set_option maxHeartbeats 2000000 in
theorem bitsJoin_near (v N K : Nat) (A : Option Addr) (n c : Nat) (l : List (Nat × Int)) (w : World) (hv : v < 18446744073709551616) (hN : N ≤ 255) (hK : K ≤ 255) (hl : Comes w 2 encPut okPut A n c l) (hn : n ≤ 60) (hT : Tab w) :
    Calls Tryd.prog 7 #[.int .u64 v, .int .u8 N, .int .u8 K, .slice A n c] w fun e w' => e = .returned (.bool true) ∧ Below w.heap.size w w' := by
  have HT := Lib.hid hT
  have HL := Lib.hid hl
  have HV := Lib.hid hv
  have hcap : c ≤ 9223372036854775807 := hl.cap
  have hle := hl.le
  clear hl hT hv
  go_enter Tryd.func7, Tryd.ntmps7
  go_wp2_with fail
  refine (works_any _ HT.out).mono ?_
  rintro e w1 ⟨rfl, hb1⟩
  have HB1 := Lib.hid hb1
  clear hb1
  go_wp2_with fail
  refine (newWriter_any _).mono ?_
  rintro e w2 ⟨rfl, hw2, hb2, hz2⟩
  have HO := Lib.hid ((One.new hw2 hb2).since HB1.out)
  clear hw2 hb2 hz2
  generalize w1.heap.size = ba at *
  go_wp2_with fail
  refine (newWriter_any _).mono ?_
  rintro e w3 ⟨rfl, hw3, hb3, hz3⟩
  have HO3 := Lib.hid (HO.out.second hw3 hb3)
  clear hw3 hb3 hz3 HO
  generalize w2.heap.size = bb at *
  go_wp2_with fail
  go_loopw [12] (fun v12 wr => ∃ k : Nat, k ≤ n ∧ v12 = .int .i64 k ∧ Pair w wr ba bb (bitsOf (l.take k)) (bitsOf (l.take k))) (fun v12 _ => n - (intOf v12).toNat)
  case atStart => exact ⟨0, Nat.zero_le _, rfl, HO3.out⟩
  case round =>
    obtain ⟨k, hk, rfl, ho⟩ := hrel
    have hln := HL.out.len
    by_cases hlt : k < n
    · have hkl : k < l.length := by omega
      obtain ⟨b, o, rfl, hcs⟩ := put_cells HL.out.lies hkl
      have hsn : bitsOf (l.take (k + 1)) = bitsOf (l.take k) ++ msb l[k].1 (within l[k].2) := by rw [take_snocL l k hkl, bitsOf_snoc]
      have hblen : (bitsOf (l.take k)).length ≤ 64 * k := by have := bitsOf_len (l.take k); simp at this; omega
      have hok := HL.out.ok _ (List.getElem_mem hkl)
      generalize l[k] = x at *
      obtain ⟨u, m⟩ := x
      generalize bitsOf (l.take k) = bs at *
      obtain ⟨hc0, hc1⟩ := hcs _ ho.below
      have HC := Lib.hid hcs
      have HS := Lib.hid (And.intro hsn (And.intro hblen hok))
      have HO2 := Lib.hid ho
      have i0 : (0 : Int) ≤ (k : Int) := by omega
      have i1 : (k : Int) < (n : Int) := by omega
      clear hsn hblen hok ho hln hcs
      go_wp2_with fail
      go_still_tail 11, (by kernel_rfl)
      go_wp2_with fail
      have hbl := HS.out.2.1
      refine (HO2.out.drew.put (by omega) (u : Int) m (by omega) (by have := HS.out.2.2.1; omega)).mono ?_
      rintro e w4 ⟨rfl, ho4⟩
      rw [Int.toNat_natCast] at ho4
      have HO4 := Lib.hid ho4
      clear hc0 hc1 HO2
      obtain ⟨hc0, hc1⟩ := HC.out _ ho4.below
      clear ho4
      go_wp2_with fail
      go_still_tail 11, (by kernel_rfl)
      go_wp2_with fail
      refine (HO4.out.drew.put2 (by omega) (u : Int) m (by omega) (by have := HS.out.2.2.1; omega)).mono ?_
      rintro e w5 ⟨rfl, ho5⟩
      rw [Int.toNat_natCast] at ho5
      have HO5 := Lib.hid ho5
      clear ho5 hc0 hc1 HO4
      go_wp2_with fail
      go_roundw
      case rel => exact ⟨k + 1, by omega, by go_num, by rw [HS.out.1]; exact HO5.out⟩
      case measure => simp [intOf]; omega
    · obtain rfl : k = n := by omega
      rw [List.take_of_length_le (by omega)] at ho
      have hbl := bitsOf_len l
      rw [hln] at hbl
      generalize bitsOf l = bs at *
      have HO2 := Lib.hid ho
      obtain ⟨a, ha⟩ : ∃ a, N % 65 = a := ⟨_, rfl⟩
      have hai : (N : Int) % 65 = (a : Int) := by omega
      have ha64 : a ≤ 64 := by omega
      obtain ⟨d, hd⟩ : ∃ d, K % (a + 1) = d := ⟨_, rfl⟩
      have hdi : (K : Int) % ((a : Int) + 1) = (d : Int) := by rw [← hd]; simp
      have hda : d ≤ a := by have := Nat.mod_lt K (show 0 < a + 1 by omega); omega
      have HBL := Lib.hid (And.intro hbl (And.intro ha hd))
      clear ho hln hbl ha hd
      go_wp2_with fail
      refine (HO2.out.put (by have := HBL.out.1; omega) (v : Int) a (by omega) (by have := HV.out; omega)).mono ?_
      rintro e w4 ⟨rfl, ho4⟩
      rw [Int.toNat_natCast, show within (a : Int) = a by unfold within; omega] at ho4
      have HO4 := Lib.hid ho4
      clear ho4 HO2
      have hx1 : v / 2 ^ d ≤ v := Nat.div_le_self _ _
      have hmsb : msb v a = msb (v / 2 ^ d) (a - d) ++ msb v d := by rw [← msb_append, show a - d + d = a by omega]
      have had : within ((a : Int) - (d : Int)) = a - d := by unfold within; omega
      have hdw : within (d : Int) = d := by unfold within; omega
      have HM := Lib.hid (And.intro hmsb (And.intro had (And.intro hdw hx1)))
      clear hmsb had hdw hx1
      by_cases hd64 : d < 64
      · go_wp2_with fail
        rw [show ((v : Int) / 2 ^ d) = ((v / 2 ^ d : Nat) : Int) from by simp]
        obtain ⟨X, hX⟩ : ∃ X, v / 2 ^ d = X := ⟨_, rfl⟩
        rw [hX] at HM
        rw [hX]
        clear hX
        refine (HO4.out.put2 (by have := HBL.out.1; omega) (X : Int) ((a : Int) - (d : Int)) (by omega) (by have := HV.out; have := HM.out.2.2.2; omega)).mono ?_
        rintro e w5 ⟨rfl, ho5⟩
        rw [Int.toNat_natCast, HM.out.2.1] at ho5
        have HO5 := Lib.hid ho5
        clear ho5 HO4
        go_wp2_with fail
        refine (HO5.out.put2 (by rw [List.length_append, msb_length]; have := HBL.out.1; omega) (v : Int) (d : Int) (by omega) (by have := HV.out; omega)).mono ?_
        rintro e w6 ⟨rfl, ho6⟩
        rw [Int.toNat_natCast, HM.out.2.2.1, List.append_assoc, ← HM.out.1] at ho6
        have HO6 := Lib.hid ho6
        clear ho6 HO5
        generalize bs ++ msb v a = bt at HO6
        go_wp2_with fail
        refine HO6.out.one.len.mono ?_
        rintro e w' ⟨rfl, rfl⟩
        go_wp2_with fail
        refine HO6.out.two.len.mono ?_
        rintro e w' ⟨rfl, rfl⟩
        go_wp2_with fail
        refine HO6.out.one.bytes.mono ?_
        rintro e w' ⟨rfl, rfl⟩
        go_wp2_with fail
        refine HO6.out.two.bytes.mono ?_
        rintro e w' ⟨rfl, rfl⟩
        go_wp2_with fail
        go_ret
        exact ⟨rfl, HO6.out.below⟩
      · have HA := Lib.hid (show a = d by omega)
        go_wp2_with fail
        refine (HO4.out.put2 (by have := HBL.out.1; omega) (v : Int) (d : Int) (by omega) (by have := HV.out; omega)).mono ?_
        rintro e w6 ⟨rfl, ho6⟩
        rw [Int.toNat_natCast, HM.out.2.2.1, HA.out] at ho6
        have HO6 := Lib.hid ho6
        clear ho6 HO4
        obtain ⟨bt, hbt⟩ : ∃ bt, bs ++ msb v d = bt := ⟨_, rfl⟩
        rw [hbt] at HO6
        clear hbt HM
        go_wp2_with fail
        refine HO6.out.one.len.mono ?_
        rintro e w' ⟨rfl, rfl⟩
        go_wp2_with fail
        refine HO6.out.two.len.mono ?_
        rintro e w' ⟨rfl, rfl⟩
        go_wp2_with fail
        refine HO6.out.one.bytes.mono ?_
        rintro e w' ⟨rfl, rfl⟩
        go_wp2_with fail
        refine HO6.out.two.bytes.mono ?_
        rintro e w' ⟨rfl, rfl⟩
        go_wp2_with fail
        go_ret
        exact ⟨rfl, HO6.out.below⟩
end Go.Proofs.YtcbdaemohfpebaaDoor.BitsW
