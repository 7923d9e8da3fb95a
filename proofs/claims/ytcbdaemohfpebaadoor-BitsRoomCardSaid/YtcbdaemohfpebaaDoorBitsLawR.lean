/-
  BitsRoom: THE WALK.
-/
import Derived.Test.YtcbdaemohfpebaaDoorBitsLawP
namespace Go.Proofs.YtcbdaemohfpebaaDoor.BitsW
open Go.RowKit Go.Shelf BitsM
theorem Both.drew {w W : World} {bw br : Nat} {b : List Bool} {s : ByteArray} {p : Nat} (h : Both w W bw br b s p) : Both w W.drew bw br b s p := h.later ⟨rfl, rfl, rfl, Nat.le_refl _, fun _ _ => rfl⟩
theorem Both.drewN {w W : World} {bw br : Nat} {b : List Bool} {s : ByteArray} {p : Nat} (h : Both w W bw br b s p) (n : Nat) : Both w (W.drewN n) bw br b s p := h.later ⟨rfl, rfl, rfl, Nat.le_refl _, fun _ _ => rfl⟩
theorem One.reader {w W W' : World} {bw : Nat} {b : List Bool} {s : ByteArray} (h : One w W bw b) (hr : ReaderAt W' W.heap.size s 0) (hb : Below W.heap.size W W') : Both w W' bw W.heap.size b s 0 := by
  obtain ⟨rb, h1, h2⟩ := h.wr
  have h3 := h1.lt
  exact ⟨h.below.trans (hb.mono h.below.size), ⟨rb, h1.later hb, (fun e => by have := h1.rlt _ e; omega), h2⟩, hr, by omega, h.hb, h.below.size⟩
theorem Both.one {w W : World} {bw br : Nat} {b : List Bool} {s : ByteArray} {p : Nat} (h : Both w W bw br b s p) : One w W bw b := by
  obtain ⟨rb, h1, h2, h3⟩ := h.wr
  exact ⟨h.below, ⟨rb, h1, h3⟩, h.hb⟩
set_option maxRecDepth 100000 in
set_option maxHeartbeats 1000000 in
theorem bitsRoom_far (A : Option Addr) (n c : Nat) (l : List (Nat × Int)) (s : ByteArray) (w : World) (hl : Comes w 2 encPut okPut A n c l) (hs : s.size ≤ maxLen) (hT : Tab w) (h60 : 60 < n ∨ 60 < s.size) :
    Calls Tryd.prog 8 #[.slice A n c, .string s] w fun e w' => e = .returned (.bool true) ∧ Below w.heap.size w w' := by
  have HT := Lib.hid hT
  have hcap : c ≤ 9223372036854775807 := hl.cap
  have hle := hl.le
  unfold maxLen at hs
  clear hl hT
  by_cases h1 : 60 < n
  · clear h60
    go_enter Tryd.func8, Tryd.ntmps8
    go_wp2_with fail
    refine (works_any _ HT.out).mono ?_
    rintro e w1 ⟨rfl, hb1⟩
    have HB1 := Lib.hid hb1
    clear hb1
    go_wp2_with fail
    refine (newWriter_any _).mono ?_
    rintro e w2 ⟨rfl, hw2, hb2, hz2⟩
    have HB2 := Lib.hid (later HB1.out hb2)
    clear hw2 hb2
    go_wp2_with fail
    refine (newReader_any _ _).mono ?_
    rintro e w3 ⟨rfl, hw3, hb3, hz3⟩
    have HB3 := Lib.hid (later HB2.out hb3)
    clear hw3 hb3
    go_wp2_with fail
    go_ret
    exact ⟨rfl, HB3.out⟩
  · have h2 : 60 < s.size := by omega
    clear h60
    go_enter Tryd.func8, Tryd.ntmps8
    go_wp2_with fail
    refine (works_any _ HT.out).mono ?_
    rintro e w1 ⟨rfl, hb1⟩
    have HB1 := Lib.hid hb1
    clear hb1
    go_wp2_with fail
    refine (newWriter_any _).mono ?_
    rintro e w2 ⟨rfl, hw2, hb2, hz2⟩
    have HB2 := Lib.hid (later HB1.out hb2)
    clear hw2 hb2
    go_wp2_with fail
    refine (newReader_any _ _).mono ?_
    rintro e w3 ⟨rfl, hw3, hb3, hz3⟩
    have HB3 := Lib.hid (later HB2.out hb3)
    clear hw3 hb3
    go_wp2_with fail
    go_ret
    exact ⟨rfl, HB3.out⟩
set_option maxRecDepth 100000 in
set_option maxHeartbeats 1000000 in
theorem bitsRoom_near (A : Option Addr) (n c : Nat) (l : List (Nat × Int)) (s : ByteArray) (w : World) (hl : Comes w 2 encPut okPut A n c l) (hn : n ≤ 60) (hs : s.size ≤ 60) (hT : Tab w) :
    Calls Tryd.prog 8 #[.slice A n c, .string s] w fun e w' => e = .returned (.bool true) ∧ Below w.heap.size w w' := by
  have HT := Lib.hid hT
  have HL := Lib.hid hl
  have hcap : c ≤ 9223372036854775807 := hl.cap
  have hle := hl.le
  clear hl hT
  go_enter Tryd.func8, Tryd.ntmps8
  go_wp2_with fail
  refine (works_any _ HT.out).mono ?_
  rintro e w1 ⟨rfl, hb1⟩
  have HB1 := Lib.hid hb1
  clear hb1
  go_wp2_with fail
  refine (newWriter_any _).mono ?_
  rintro e w2 ⟨rfl, hw2, hb2, hz2⟩
  have HO := Lib.hid ((One.new hw2 hb2).since HB1.out)
  clear hw2 hb2 hz2
  generalize w1.heap.size = bw at *
  go_wp2_with fail
  refine (newReader_any _ _).mono ?_
  rintro e w3 ⟨rfl, hw3, hb3, hz3⟩
  have HO3 := Lib.hid (HO.out.reader hw3 hb3)
  clear hw3 hb3 hz3 HO
  generalize w2.heap.size = br at *
  go_wp2_with fail
  go_loopw [8, 9] (fun v8 v9 wr => ∃ k q : Nat, k ≤ n ∧ v9 = .int .i64 k ∧ (bitsOf (l.take k)).length = q ∧ q ≤ 64 * k ∧ v8 = .int .i64 q ∧ Both w wr bw br (bitsOf (l.take k)) s 0) (fun _ v9 _ => n - (intOf v9).toNat)
  case atStart => exact ⟨0, 0, Nat.zero_le _, rfl, rfl, Nat.zero_le _, rfl, HO3.out⟩
  case round =>
    obtain ⟨k, q, hk, rfl, hq, hqk, rfl, ho⟩ := hrel
    have hln := HL.out.len
    by_cases hlt : k < n
    · have hkl : k < l.length := by omega
      obtain ⟨b, o, rfl, hcs⟩ := put_cells HL.out.lies hkl
      have hsn : bitsOf (l.take (k + 1)) = bitsOf (l.take k) ++ msb l[k].1 (within l[k].2) := by rw [take_snocL l k hkl, bitsOf_snoc]
      have hok := HL.out.ok _ (List.getElem_mem hkl)
      generalize l[k] = x at *
      obtain ⟨v, m⟩ := x
      generalize bitsOf (l.take k) = bs at *
      obtain ⟨hc0, hc1⟩ := hcs _ ho.below
      have HC := Lib.hid hcs
      have HS := Lib.hid (And.intro hsn (And.intro hq hok))
      have HO2 := Lib.hid ho
      have i0 : (0 : Int) ≤ (k : Int) := by omega
      have i1 : (k : Int) < (n : Int) := by omega
      clear hsn hq hok ho hln hcs
      go_wp2_with fail
      go_still_tail 11, (by kernel_rfl)
      go_wp2_with fail
      refine (HO2.out.drew.put (by rw [HS.out.2.1]; omega) (v : Int) m (by omega) (by have := HS.out.2.2.1; omega)).mono ?_
      rintro e w5 ⟨rfl, ho5⟩
      rw [Int.toNat_natCast] at ho5
      obtain ⟨hd0, hd1⟩ := HC.out _ ho5.below
      have HO5 := Lib.hid ho5
      have t0 : (0 : Int) ≤ min (max m 0) 64 := by omega
      have t1 : min (max m 0) 64 ≤ 64 := by omega
      clear ho5 hc0 hc1 HO2
      go_wp2_with fail
      go_roundw
      case rel =>
        refine ⟨k + 1, q + within m, by omega, by go_num, by rw [HS.out.1, List.length_append, HS.out.2.1, msb_length], by have := within_le m; omega, ?_, by rw [HS.out.1]; exact HO5.out⟩
        rw [Int.natCast_add, within_cast]
      case measure => simp [intOf]; omega
    · obtain rfl : k = n := by omega
      rw [List.take_of_length_le (by omega)] at ho hq
      generalize bitsOf l = bs at *
      obtain ⟨r, hr⟩ : ∃ r, (⟨(pack bs).toArray⟩ : ByteArray).size = r := ⟨_, rfl⟩
      have hrq : r = (q + 7) / 8 := by rw [← hr, ← hq, ← pack_length]; simp [ByteArray.size]
      have hr8 : ((q : Int) + 7) / 8 = (r : Int) := by omega
      have HO2 := Lib.hid ho
      have HQ := Lib.hid (And.intro hq hrq)
      clear ho hq hrq
      go_wp2_with fail
      refine HO2.out.one.len.mono ?_
      rintro e w' ⟨rfl, rfl⟩
      rw [HQ.out.1]
      go_wp2_with fail
      refine HO2.out.one.bytes.mono ?_
      rintro e w' ⟨rfl, rfl⟩
      go_wp2_with fail
      refine (left_below br s 0 _ HO2.out.rd (by omega) (by omega)).mono ?_
      rintro e w6 ⟨rfl, hb6, -⟩
      have HB6 := Lib.hid (HO2.out.later hb6).below
      clear hb6
      rw [show ((8 * s.size - 0 : Nat) : Int) = 8 * (s.size : Int) by omega]
      go_wp2_with fail
      go_ret
      exact ⟨rfl, HB6.out⟩
end Go.Proofs.YtcbdaemohfpebaaDoor.BitsW
