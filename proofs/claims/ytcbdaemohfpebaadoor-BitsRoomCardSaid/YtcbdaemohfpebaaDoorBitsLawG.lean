/-
  BitsGets: THE WALK.
-/
import Derived.Test.YtcbdaemohfpebaaDoorBitsLawP
namespace Go.Proofs.YtcbdaemohfpebaaDoor.BitsW
open Go.RowKit Go.Shelf BitsM
def encI (x : Int) : List Value := [.int .i64 x]
def okI (x : Int) : Prop := -9223372036854775808 ≤ x ∧ x ≤ 9223372036854775807
theorem int_cells {w : World} {A : Option Addr} {l : List Int} (h : Lies w w.heap.size 1 encI A l) {k : Nat} (hk : k < l.length) :
    ∃ b o, A = some ⟨b, o, none⟩ ∧ ∀ W, Below w.heap.size w W → W.cell? ⟨b, o + k, none⟩ = some (.int .i64 l[k]) := by
  obtain ⟨b, o, hA, _, hc⟩ := h.all hk
  exact ⟨b, o, hA, fun W hW => by have := hc W hW 0 _ rfl; simpa using this⟩
theorem Rd.left {w W : World} {br : Nat} {s : ByteArray} {p : Nat} (h : Rd w W br s p) (hs : s.size ≤ 68719476736) (hp : p ≤ 8 * s.size) :
    Calls Tryd.prog 30 #[.pointer (some ⟨br, 0, none⟩)] W fun e W' => e = .returned (.int .i64 ((8 * s.size - p : Nat) : Int)) ∧ Rd w W' br s p :=
  (left_any br s p W h.rd (by omega) hp).mono fun e W' ⟨h1, n, h2⟩ => ⟨h1, by subst h2; exact h.later ⟨rfl, rfl, rfl, Nat.le_refl _, fun _ _ => rfl⟩⟩
theorem Rd.drew {w W : World} {br : Nat} {s : ByteArray} {p : Nat} (h : Rd w W br s p) : Rd w W.drew br s p := h.later ⟨rfl, rfl, rfl, Nat.le_refl _, fun _ _ => rfl⟩
theorem Rd.drewN {w W : World} {br : Nat} {s : ByteArray} {p : Nat} (h : Rd w W br s p) (n : Nat) : Rd w (W.drewN n) br s p := h.later ⟨rfl, rfl, rfl, Nat.le_refl _, fun _ _ => rfl⟩
set_option maxRecDepth 100000 in
set_option maxHeartbeats 1000000 in
theorem bitsGets_far (s : ByteArray) (A : Option Addr) (n c : Nat) (l : List Int) (w : World) (hs : s.size ≤ maxLen) (hl : Comes w 1 encI okI A n c l) (hT : Tab w) (h60 : 60 < s.size ∨ 60 < n) :
    Calls Tryd.prog 4 #[.string s, .slice A n c] w fun e w' => e = .returned (.bool true) ∧ Below w.heap.size w w' := by
  have HT := Lib.hid hT
  have hcap : c ≤ 9223372036854775807 := hl.cap
  have hle := hl.le
  unfold maxLen at hs
  clear hl hT
  by_cases h1 : 60 < s.size
  · clear h60
    go_enter Tryd.func4, Tryd.ntmps4
    go_wp2_with fail
    refine (works_any _ HT.out).mono ?_
    rintro e w1 ⟨rfl, hb1⟩
    have HB1 := Lib.hid hb1
    clear hb1
    go_wp2_with fail
    refine (newReader_any _ _).mono ?_
    rintro e w2 ⟨rfl, hw2, hb2, hz2⟩
    have HB2 := Lib.hid (later HB1.out hb2)
    clear hw2 hb2
    go_wp2_with fail
    go_ret
    exact ⟨rfl, HB2.out⟩
  · have h2 : 60 < n := by omega
    clear h60
    go_enter Tryd.func4, Tryd.ntmps4
    go_wp2_with fail
    refine (works_any _ HT.out).mono ?_
    rintro e w1 ⟨rfl, hb1⟩
    have HB1 := Lib.hid hb1
    clear hb1
    go_wp2_with fail
    refine (newReader_any _ _).mono ?_
    rintro e w2 ⟨rfl, hw2, hb2, hz2⟩
    have HB2 := Lib.hid (later HB1.out hb2)
    clear hw2 hb2
    go_wp2_with fail
    go_ret
    exact ⟨rfl, HB2.out⟩
set_option maxRecDepth 100000 in
set_option maxHeartbeats 1000000 in
theorem bitsGets_near (s : ByteArray) (A : Option Addr) (n c : Nat) (l : List Int) (w : World) (hs : s.size ≤ 60) (hn : n ≤ 60) (hl : Comes w 1 encI okI A n c l) (hT : Tab w) :
    Calls Tryd.prog 4 #[.string s, .slice A n c] w fun e w' => e = .returned (.bool true) ∧ Below w.heap.size w w' := by
  have HT := Lib.hid hT
  have HL := Lib.hid hl
  have hcap : c ≤ 9223372036854775807 := hl.cap
  have hle := hl.le
  clear hl hT
  obtain ⟨S, hS⟩ : ∃ S, unpack s.data.toList = S := ⟨_, rfl⟩
  have hSl : S.length = 8 * s.size := by rw [← hS, unpack_length]; simp
  have HSS := Lib.hid (And.intro hS hSl)
  clear hS hSl
  go_enter Tryd.func4, Tryd.ntmps4
  go_wp2_with fail
  refine (works_any _ HT.out).mono ?_
  rintro e w1 ⟨rfl, hb1⟩
  have HB1 := Lib.hid hb1
  clear hb1
  go_wp2_with fail
  refine (newReader_any _ _).mono ?_
  rintro e w2 ⟨rfl, hw2, hb2, hz2⟩
  have HO := Lib.hid ((Rd.new hw2 hb2).since HB1.out)
  clear hw2 hb2 hz2
  generalize w1.heap.size = br at *
  go_wp2_with fail
  refine (rof_any s _ (by omega)).mono ?_
  rintro e w' ⟨rfl, rfl⟩
  rw [HSS.out.1]
  go_wp2_with fail
  go_loopw [7, 8] (fun v7 v8 wr => ∃ k p : Nat, k ≤ n ∧ v8 = .int .i64 k ∧ p ≤ 8 * s.size ∧ v7 = .string (bstr (S.drop p)) ∧ Rd w wr br s p) (fun _ v8 _ => n - (intOf v8).toNat)
  case atStart => exact ⟨0, 0, Nat.zero_le _, rfl, Nat.zero_le _, rfl, HO.out⟩
  case round =>
    obtain ⟨k, p, hk, rfl, hp, rfl, ho⟩ := hrel
    have hln := HL.out.len
    by_cases hlt : k < n
    · have hkl : k < l.length := by omega
      obtain ⟨b, o, rfl, hcs⟩ := int_cells HL.out.lies hkl
      have hok := HL.out.ok _ (List.getElem_mem hkl)
      generalize l[k] = m at *
      have hc0 := hcs _ ho.below
      have HC := Lib.hid hcs
      have HO2 := Lib.hid ho
      have HOK := Lib.hid hok
      have i0 : (0 : Int) ≤ (k : Int) := by omega
      have i1 : (k : Int) < (n : Int) := by omega
      clear hok ho hln hcs
      go_wp2_with fail
      rw [← within_cast m]
      have ht64 := within_le m
      by_cases hfar : 8 * s.size < p + within m
      · refine (get_none br s p m _ HO2.out.rd (by omega) hp hfar).mono ?_
        rintro e w3 ⟨rfl, hrd⟩
        have HO3 := Lib.hid (HO2.out.got hrd)
        clear hrd
        obtain ⟨D, hD⟩ : ∃ D, S.drop p = D := ⟨_, rfl⟩
        have hDl : D.length = 8 * s.size - p := by rw [← hD, List.length_drop, HSS.out.2]
        obtain ⟨L, hLL⟩ : ∃ L, 8 * s.size - p = L := ⟨_, rfl⟩
        rw [hLL] at hDl
        have hzz : (bstr D).size = L := by rw [bstr_size, hDl]
        rw [hD]
        obtain ⟨t, htt⟩ : ∃ t, within m = t := ⟨_, rfl⟩
        rw [htt] at hfar ht64
        rw [htt]
        have hgt : (L : Int) < (t : Int) := by omega
        have hL480 : L ≤ 480 := by omega
        have HD := Lib.hid (And.intro hD (And.intro hDl hLL))
        clear hD hDl hLL htt
        obtain ⟨C, hC⟩ : ∃ C, cleanB D = C := ⟨_, rfl⟩
        have HCL := Lib.hid hC
        clear hC
        go_wp2_with fail
        refine (HO3.out.left (by omega) hp).mono ?_
        rintro e w4 ⟨rfl, ho4⟩
        rw [HD.out.2.2]
        have HO4 := Lib.hid ho4
        clear ho4
        go_wp2_with fail
        refine (clean_any br s p _ HO4.out.rd (by omega) hp).mono ?_
        rintro e w5 ⟨rfl, hb5⟩
        have HO5 := Lib.hid (HO4.out.later hb5)
        clear hb5
        rw [HSS.out.1, HD.out.1, HCL.out]
        go_wp2_with fail
        refine (rclean_any D _ (by rw [HD.out.2.1]; omega)).mono ?_
        rintro e w' ⟨rfl, rfl⟩
        rw [show (D.all (! ·) && decide (D.length < 8)) = C from HCL.out]
        go_wp2_with fail
        go_roundw
        case rel => exact ⟨k + 1, p, by omega, by go_num, hp, by rw [HD.out.1], HO5.out⟩
        case measure => simp [intOf]; omega
      · refine (get_some br s p m _ HO2.out.rd (by omega) (by omega)).mono ?_
        rintro e w3 ⟨rfl, hrd⟩
        have HO3 := Lib.hid (HO2.out.got hrd)
        clear hrd
        obtain ⟨D, hD⟩ : ∃ D, S.drop p = D := ⟨_, rfl⟩
        have hDl : D.length = 8 * s.size - p := by rw [← hD, List.length_drop, HSS.out.2]
        obtain ⟨L, hLL⟩ : ∃ L, 8 * s.size - p = L := ⟨_, rfl⟩
        rw [hLL] at hDl
        have hzz : (bstr D).size = L := by rw [bstr_size, hDl]
        rw [HSS.out.1, hD]
        obtain ⟨t, htt⟩ : ∃ t, within m = t := ⟨_, rfl⟩
        rw [htt] at hfar ht64
        rw [htt]
        have hgt : ¬ (L : Int) < (t : Int) := by omega
        have hL480 : L ≤ 480 := by omega
        have hsl := slice_to (P := Tryd.prog) Tryd.underlying9 (bstr D) (t : Int) t rfl (by omega)
        have hsm := slice_from (P := Tryd.prog) Tryd.underlying9 (bstr D) (t : Int) t rfl (by omega)
        rw [bstr_extract, List.drop_zero, Nat.sub_zero] at hsl
        rw [bstr_extract, hzz, show (D.drop t).take (L - t) = S.drop (p + t) from by rw [List.take_of_length_le (by rw [List.length_drop]; omega), ← hD, List.drop_drop]] at hsm
        obtain ⟨F, hF⟩ : ∃ F, D.take t = F := ⟨_, rfl⟩
        obtain ⟨E, hE⟩ : ∃ E, S.drop (p + t) = E := ⟨_, rfl⟩
        rw [hF] at hsl
        rw [hE] at hsm
        rw [hF]
        obtain ⟨x, hx⟩ : ∃ x, numB F = x := ⟨_, rfl⟩
        rw [hx]
        have hFl : F.length ≤ 64 := by rw [← hF, List.length_take]; omega
        have hEl : E.length = 8 * s.size - (p + t) := by rw [← hE, List.length_drop, HSS.out.2]
        have hLL2 : 8 * s.size - (p + t) = L - t := by omega
        obtain ⟨L2, hL2⟩ : ∃ L2, L - t = L2 := ⟨_, rfl⟩
        rw [hLL2, hL2] at hEl
        rw [hL2] at hLL2
        have hze : (bstr E).size = L2 := by rw [bstr_size, hEl]
        have hpt : p + t ≤ 8 * s.size := by omega
        have hL2480 : L2 ≤ 480 := by omega
        have HD := Lib.hid (And.intro hE (And.intro hEl (And.intro hLL2 (And.intro hFl (And.intro hx htt)))))
        rw [htt] at HO3
        clear hD hDl hLL htt hF hE hx hEl hLL2 hFl hL2
        obtain ⟨C, hC⟩ : ∃ C, cleanB E = C := ⟨_, rfl⟩
        have HCL := Lib.hid hC
        clear hC
        go_wp2_with fail
        refine (rnumber_any F _ HD.out.2.2.2.1).mono ?_
        rintro e w' ⟨rfl, rfl⟩
        rw [HD.out.2.2.2.2.1]
        go_wp2_with fail
        refine (HO3.out.left (by omega) hpt).mono ?_
        rintro e w4 ⟨rfl, ho4⟩
        rw [HD.out.2.2.1]
        have HO4 := Lib.hid ho4
        clear ho4
        go_wp2_with fail
        refine (clean_any br s (p + t) _ HO4.out.rd (by omega) hpt).mono ?_
        rintro e w5 ⟨rfl, hb5⟩
        have HO5 := Lib.hid (HO4.out.later hb5)
        clear hb5
        rw [HSS.out.1, HD.out.1, HCL.out]
        go_wp2_with fail
        refine (rclean_any E _ (by rw [HD.out.2.1]; omega)).mono ?_
        rintro e w' ⟨rfl, rfl⟩
        rw [show (E.all (! ·) && decide (E.length < 8)) = C from HCL.out]
        go_wp2_with fail
        go_roundw
        case rel => exact ⟨k + 1, p + t, by omega, by go_num, hpt, by rw [HD.out.1], HO5.out⟩
        case measure => simp [intOf]; omega
    · obtain rfl : k = n := by omega
      have HO2 := Lib.hid ho.below
      clear ho
      go_wp2_with fail
      go_ret
      exact ⟨rfl, HO2.out⟩
end Go.Proofs.YtcbdaemohfpebaaDoor.BitsW
