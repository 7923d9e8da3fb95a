/-
  StampBack, StampCosts: THE WALKS.
-/
import Derived.Test.YtdnipfkpfdglnaaStWorks
namespace Go.Proofs.Ytdnipfkpfdglnaa.StW
open Go.RowKit Go.Shelf BitsM BitsW StM
theorem packed_size (l : List Int) : (⟨(pack (bitsAll s0 l)).toArray⟩ : ByteArray).size ≤ 9 * l.length + 1 := by
  have h := bitsAll_len s0 l
  simp only [ByteArray.size, List.size_toArray, pack_length]; omega
set_option maxRecDepth 20000 in
set_option maxHeartbeats 4000000 in
theorem stampBack_all (A : Option Addr) (n c : Nat) (l : List Int) (B : ByteArray) (k : Int) (w : World) (hl : Comes w 1 encI okI A n c l) (hB : B.size ≤ maxLen) :
    Calls Try.prog 6 #[.slice A n c, .string B, .int .i64 k] w fun e w' => e = .returned (.bool true) ∧ Below w.heap.size w w' := by
  have HL := Lib.hid hl
  have hcap : c ≤ 9223372036854775807 := hl.cap
  have hle := hl.le
  have hB' : B.size ≤ 9223372036854775807 := hB
  clear hl hB
  go_enter Try.func6, Try.ntmps6
  go_wp2_with fail
  refine (works_any _).mono ?_
  rintro e w1 ⟨rfl, hb1⟩
  have HB1 := Lib.hid hb1
  clear hb1
  by_cases n60 : 60 < n
  · go_wp2_with fail
    go_ret
    exact ⟨rfl, HB1.out⟩
  by_cases b60 : 60 < B.size
  · go_wp2_with fail
    go_ret
    exact ⟨rfl, HB1.out⟩
  go_wp2_with fail
  refine (all_any A n c l _ (HL.out.later HB1.out) (by omega)).mono ?_
  rintro e w2 ⟨rfl, hb2⟩
  have HB2 := Lib.hid (later HB1.out hb2)
  clear hb2
  have hback := read_back l HL.out.ok (by rw [HL.out.len]; omega)
  have hpz := packed_size l
  rw [HL.out.len] at hback hpz
  obtain ⟨sb, hsb⟩ : ∃ sb, (⟨(pack (bitsAll s0 l)).toArray⟩ : ByteArray) = sb := ⟨_, rfl⟩
  rw [hsb] at hpz ⊢
  have hback' : readB (unpack sb.data.toList) (n : Int) = some l := by rw [← hsb]; exact hback
  have HBK := Lib.hid hback'
  clear hback hback' hsb
  go_wp2_with fail
  refine (read_any sb (n : Int) _ (by omega)).mono ?_
  rintro e w3 ⟨A3, k3, c3, rfl, hcm, hb3⟩
  rw [HBK.out] at hcm ⊢
  have HCM := Lib.hid (show Comes w3 1 encI okI A3 k3 c3 l from hcm)
  have HB3 := Lib.hid (later HB2.out hb3)
  clear hcm hb3
  go_wp2_with fail
  refine (rsame_any A3 k3 c3 l A n c l _ HCM.out (HL.out.later HB3.out)).mono ?_
  rintro e w4 ⟨rfl, hb4⟩
  rw [decide_eq_true rfl]
  have HB4 := Lib.hid (later HB3.out hb4)
  clear hb4
  go_wp2_with fail
  refine (read_any B k _ (by omega)).mono ?_
  rintro e w5 ⟨A5, k5, c5, rfl, hcm, hb5⟩
  have HB5 := Lib.hid (later HB4.out hb5)
  clear hb5
  cases hR : readB (unpack B.data.toList) k with
  | none =>
    clear hcm hR
    go_wp2_with fail
    go_ret
    exact ⟨rfl, HB5.out⟩
  | some y =>
    rw [hR] at hcm
    obtain ⟨h1, h2, h3, h4⟩ := read_only B k y hR
    have hkk : k5 = y.length := hcm.len.symm
    subst hkk
    have HCM5 := Lib.hid (show Comes w5 1 encI okI A5 y.length c5 y from hcm)
    have HH := Lib.hid h1
    subst h2
    clear hcm hR h1 h3
    generalize y.length = q at *
    go_wp2_with fail
    refine (all_any A5 q c5 y _ HCM5.out (by omega)).mono ?_
    rintro e w6 ⟨rfl, hb6⟩
    rw [HH.out]
    have HB6 := Lib.hid (later HB5.out hb6)
    clear hb6
    go_wp2_with fail
    go_ret
    exact ⟨rfl, HB6.out⟩
theorem stN (l : List Int) (h : l.length ≤ 1000000) : (stAll s0 l).1 = l.length := by
  revert h
  refine snocInd (P := fun l => l.length ≤ 1000000 → (stAll s0 l).1 = l.length) (fun _ => rfl) (fun l t ih => ?_) l
  intro h
  rw [List.length_append, List.length_singleton] at h
  have i := ih (by omega)
  rw [stAll_snoc]
  unfold aftS
  split
  · rename_i h0
    rw [i] at h0
    rw [List.length_append, List.length_singleton]
    show (1 : Int) = _; omega
  · show wrap64 _ = _
    rw [i, wrap_ok (by unfold okI; omega)]; simp
end Go.Proofs.Ytdnipfkpfdglnaa.StW
