/-
  alluviumlaw09.texts, works: THE WALKS.
-/
import Derived.Test.YtmaehbcjcifchaaFrMath2
import Derived.RegionTactic
import Derived.ChangeAlike
import Derived.BigRegion
namespace Go.Proofs.Ytmaehbcjcifchaa.FrW
set_option linter.unusedVariables false
open Go.RowKit CrcM CrcW FrM
def okT (x : List UInt8) : Prop := x.length ≤ 9223372036854775807
theorem t_cells {w : World} {A : Option Addr} {l : List (List UInt8)} (h : Lies w w.heap.size 1 encT A l) {k : Nat} (hk : k < l.length) :
    ∃ b o, A = some ⟨b, o, none⟩ ∧ ∀ W, Below w.heap.size w W → W.cell? ⟨b, o + k, none⟩ = some (.string (bs l[k])) := by
  obtain ⟨b, o, hA, _, hc⟩ := h.all hk
  exact ⟨b, o, hA, fun W hW => by have := hc W hW 0 _ rfl; simpa using this⟩
set_option maxRecDepth 20000 in
set_option maxHeartbeats 2000000 in
theorem texts_any (A : Option Addr) (n c : Nat) (l : List (List UInt8)) (A2 : Option Addr) (n2 c2 : Nat) (l2 : List (List UInt8)) (w : World) (hl : Comes w 1 encT okT A n c l) (hl2 : Comes w 1 encT okT A2 n2 c2 l2) :
    Calls Try.prog 17 #[.slice A n c, .slice A2 n2 c2] w fun e w' => e = .returned (.bool (decide (l = l2))) ∧ Below w.heap.size w w' := by
  have HL := Lib.hid hl
  have HL2 := Lib.hid hl2
  have hcap : c ≤ 9223372036854775807 := hl.cap
  have hle := hl.le
  have hcap2 : c2 ≤ 9223372036854775807 := hl2.cap
  have hle2 := hl2.le
  clear hl hl2
  by_cases hnn : n = n2
  · subst hnn
    go_enter Try.func17, Try.ntmps17
    go_wp2_with fail
    go_loopw [5] (fun v5 wr => ∃ k : Nat, k ≤ n ∧ v5 = .int .i64 k ∧ l.take k = l2.take k ∧ Below w.heap.size w wr) (fun v5 _ => n - (intOf v5).toNat)
    case atStart => exact ⟨0, Nat.zero_le _, rfl, rfl, Below.refl _ _⟩
    case round =>
      obtain ⟨k, hk, rfl, ht, ho⟩ := hrel
      have hln := HL.out.len
      have hln2 := HL2.out.len
      by_cases hlt : k < n
      · have hkl : k < l.length := by omega
        have hkl2 : k < l2.length := by omega
        obtain ⟨b, o, rfl, hcs⟩ := t_cells HL.out.lies hkl
        obtain ⟨b2, o2, rfl, hcs2⟩ := t_cells HL2.out.lies hkl2
        have hc0 := hcs _ ho
        have hd0 := hcs2 _ ho
        have hs1 : l.take (k + 1) = l.take k ++ [l[k]] := by rw [List.take_add_one, List.getElem?_eq_getElem hkl]; rfl
        have hs2 : l2.take (k + 1) = l2.take k ++ [l2[k]] := by rw [List.take_add_one, List.getElem?_eq_getElem hkl2]; rfl
        generalize l[k] = x at *
        generalize l2[k] = y at *
        have hq := bs_beq x y
        have HO := Lib.hid ho
        have HT := Lib.hid ht
        rw [← ht] at hs2
        have HS := Lib.hid (And.intro hs1 hs2)
        clear hs1 hs2
        have i0 : (0 : Int) ≤ (k : Int) := by omega
        have i1 : (k : Int) < (n : Int) := by omega
        clear ho hln hcs hcs2 hln2
        by_cases hxy : x = y
        · subst hxy
          rw [decide_eq_true rfl] at hq
          clear ht
          go_wp2_with fail
          go_quiet (fail)
          go_wp2_with fail
          go_roundw
          case rel => exact ⟨k + 1, by omega, by go_num, by rw [HS.out.1, HS.out.2, HT.out], HO.out.trans ⟨rfl, rfl, rfl, Nat.le_refl _, fun _ _ => rfl⟩⟩
          case measure => simp [intOf]; omega
        · have hno : l ≠ l2 := by
            intro e
            have h1 := HS.out.1; have h2 := HS.out.2
            rw [e] at h1
            rw [h1, ht] at h2
            have := List.append_cancel_left h2
            simp at this
            exact hxy this
          rw [decide_eq_false hxy] at hq
          have hq2 : ((bs x).toList != (bs y).toList) = true := by rw [bne, hq]; rfl
          have HX := Lib.hid hno
          clear hno ht hxy
          go_wp2_with fail
          go_quiet (fail)
          go_wp2_with fail
          go_ret
          exact ⟨by rw [decide_eq_false HX.out]; rfl, HO.out.trans ⟨rfl, rfl, rfl, Nat.le_refl _, fun _ _ => rfl⟩⟩
      · obtain rfl : k = n := by omega
        rw [List.take_of_length_le (by omega), List.take_of_length_le (by omega)] at ht
        have HO := Lib.hid (And.intro ho ht)
        clear ho ht hln hln2
        go_wp2_with fail
        go_ret
        exact ⟨by rw [decide_eq_true HO.out.2]; rfl, HO.out.1⟩
  · have hno : l ≠ l2 := by
      intro e; apply hnn; rw [← HL.out.len, ← HL2.out.len, e]
    have HX := Lib.hid hno
    have hni : ¬ ((n : Int) = (n2 : Int)) := by omega
    have hne2 : ((n : Int) != (n2 : Int)) = true := by simpa using hni
    clear hni
    clear hno hnn
    go_enter Try.func17, Try.ntmps17
    go_wp2_with fail
    go_ret
    exact ⟨by rw [decide_eq_false HX.out]; rfl, Below.refl _ _⟩
theorem open_tup (s m : List UInt8) (w : World) (hs : s.length ≤ 1099511627776) (hm : m.length ≤ 1099511627776) :
    Calls Try.prog 10 #[.string (bs s), .string (bs m)] w fun e w' => e = .returned (.tuple #[.int .i64 (openF s m).1, .int .i64 (openF s m).2.1, .string (bs (openF s m).2.2.1), .int .i64 (openF s m).2.2.2]) ∧ Below w.heap.size w w' := open_any s m w hs hm
theorem split_tup (l : List UInt8) (most : Int) (w : World) (hl : l.length ≤ 1000000) (hm : most ≤ 9223372036854775807) :
    Calls Try.prog 16 #[.string (bs l), .int .i64 most] w fun e w' => ∃ A c, e = .returned (.tuple #[.slice A (sp l most).1.length c, .int .i64 ((l.length : Int) - ((sp l most).2.1.length : Int)), .int .i64 ((sp l most).2.2 : Int)]) ∧
      Comes w' 1 encT (fun _ => True) A (sp l most).1.length c (sp l most).1 ∧ Below w.heap.size w w' := by
  refine (split_any l most w hl hm).mono ?_
  rintro e w' ⟨v, rfl, hown, hb⟩
  obtain ⟨A, c, rfl, -, hc⟩ := Comes.of_own hown (fun _ => rfl) (by decide) (okA := fun _ => True) (fun _ _ => trivial)
  exact ⟨A, c, rfl, hc, hb⟩
theorem conv_1a (W : World) (g : Nat) (h0 : W.cell? ⟨g, 0, none⟩ = some (.int .u8 1)) (h1 : W.cell? ⟨g, 1, none⟩ = some (.int .u8 97)) :
    (convert 39 9 (.slice (some ⟨g, 0, none⟩) 2 2)).run Try.prog W = .ok (.string (bs [1, 97])) W := by
  refine run_convert_bytes_back (P := Try.prog) _ 39 9 5 ⟨g, 0, none⟩ 2 [1, 97] Try.underlying39 Try.underlying5 Try.underlying9 ?_
  intro j hj
  have hj4 : j < 2 := hj
  have ha : (⟨g, 0, none⟩ : Addr).add j = ⟨g, j, none⟩ := by unfold Addr.add; split <;> simp_all
  rw [ha]
  rcases (show j = 0 ∨ j = 1 by omega) with rfl | rfl
  · exact h0
  · exact h1
theorem small_one : small 1 = [1] := rfl
theorem fa_len : (frm [97]).length = 6 := by rw [frm_len]; rfl
theorem fa_two : (bs (frm [97])).extract 0 2 = bs [1, 97] := by rw [bs_extract]; rfl
set_option maxRecDepth 20000 in
set_option maxHeartbeats 4000000 in
theorem works_any (w : World) : Calls Try.prog 9 #[] w fun e w' => e = .returned (.bool true) ∧ Below w.heap.size w w' := by
  have HP := Lib.hid (fun W => put_any [97] W (by simp))
  have HG1 : Hid (∀ W, Calls Try.prog 14 #[.string (bs (frm [97]) ++ ⟨#[122]⟩), .int .i64 9] W fun e w' => e = .returned (.tuple #[.string ⟨#[97]⟩, .string ⟨#[122]⟩, .int .i64 0]) ∧ Below W.heap.size W w') := Lib.hid (fun W => by
    have h := get_tup (frm [97] ++ [122]) 9 W (by rw [List.length_append, fa_len]; simp) (by omega)
    rw [getF_put [97] [122] 9 (by simp) (by simp)] at h
    rw [← bs_append] at h; exact h)
  have HG2 : Hid (∀ W, Calls Try.prog 14 #[.string (bs ((frm [97]).take 3)), .int .i64 9] W fun e w' => e = .returned (.tuple #[.string ⟨#[]⟩, .string (bs ((frm [97]).take 3)), .int .i64 1]) ∧ Below W.heap.size W w') := Lib.hid (fun W => by
    have h := get_tup ((frm [97]).take 3) 9 W (by rw [List.length_take, fa_len]; simp) (by omega)
    rw [getF_cut [97] 3 9 (by simp) (by simp) (by rw [fa_len]; omega)] at h
    exact h)
  have HG3 : Hid (∀ W, Calls Try.prog 14 #[.string (bs (frm [97])), .int .i64 0] W fun e w' => e = .returned (.tuple #[.string ⟨#[]⟩, .string (bs (frm [97])), .int .i64 2]) ∧ Below W.heap.size W w') := Lib.hid (fun W => by
    have h := get_tup (frm [97] ++ []) 0 W (by rw [List.length_append, fa_len]; simp) (by omega)
    rw [getF_big [97] [] 0 (by simp) (by simp)] at h
    rw [List.append_nil] at h; exact h)
  have HSP : Hid (∀ W, Calls Try.prog 16 #[.string (bs (frm [97]) ++ bs (frm [97])), .int .i64 9] W fun e w' => (∃ A c, e = .returned (.tuple #[.slice A 2 c, .int .i64 12, .int .i64 0])) ∧ Below W.heap.size W w') := Lib.hid (fun W => by
    have h := split_tup (frm [97] ++ frm [97]) 9 W (by rw [List.length_append, fa_len]; omega) (by omega)
    have e := sp_flat 9 [] [[97], [97]] (by intro b hb; simp at hb; subst hb; simp)
    rw [show flat [[97], [97]] ++ [] = frm [97] ++ frm [97] by simp [flat], sp_nil] at e
    rw [e] at h
    rw [← bs_append] at h
    refine h.mono ?_
    rintro e2 w' ⟨A, c, rfl, -, hb⟩
    refine ⟨⟨A, c, ?_⟩, hb⟩
    rw [show (frm [97] ++ frm [97]).length = 12 by rw [List.length_append, fa_len]]; rfl)
  have HH1 := Lib.hid (fun W => head_any [65, 66] 2 1 W (by simp))
  have HH2 := Lib.hid (fun W => head_any [65, 66] 4 0 W (by simp))
  have HH3 := Lib.hid (fun W => head_any [65, 66] 1 4 W (by simp))
  have HO1 : Hid (∀ W, Calls Try.prog 10 #[.string (bs (hd [65, 66] 2 1 ++ ctail (hd [65, 66] 2 1)) ++ ⟨#[120]⟩), .string ⟨#[65, 66]⟩] W fun e w' => e = .returned (.tuple #[.int .i64 2, .int .i64 1, .string ⟨#[120]⟩, .int .i64 0]) ∧ Below W.heap.size W w') := Lib.hid (fun W => by
    have h := open_tup (hd [65, 66] 2 1 ++ ctail (hd [65, 66] 2 1) ++ [120]) [65, 66] W (by rw [List.length_append, head_len]; simp) (by simp)
    rw [open_head] at h
    rw [← bs_append] at h; exact h)
  have HO2 : Hid (∀ W, Calls Try.prog 10 #[.string (bs (hd [65, 66] 4 0 ++ ctail (hd [65, 66] 4 0))), .string ⟨#[65, 66]⟩] W fun e w' => e = .returned (.tuple #[.int .i64 0, .int .i64 0, .string ⟨#[]⟩, .int .i64 10]) ∧ Below W.heap.size W w') := Lib.hid (fun W => by
    have h := open_tup (hd [65, 66] 4 0 ++ ctail (hd [65, 66] 4 0) ++ []) [65, 66] W (by rw [List.length_append, head_len]; simp) (by simp)
    rw [open_head] at h
    rw [List.append_nil] at h; exact h)
  have HO3 : Hid (∀ W, Calls Try.prog 10 #[.string (bs (hd [65, 66] 1 4 ++ ctail (hd [65, 66] 1 4))), .string ⟨#[65, 66]⟩] W fun e w' => e = .returned (.tuple #[.int .i64 0, .int .i64 0, .string ⟨#[]⟩, .int .i64 10]) ∧ Below W.heap.size W w') := Lib.hid (fun W => by
    have h := open_tup (hd [65, 66] 1 4 ++ ctail (hd [65, 66] 1 4) ++ []) [65, 66] W (by rw [List.length_append, head_len]; simp) (by simp)
    rw [open_head] at h
    rw [List.append_nil] at h; exact h)
  have hz := bs_size (frm [97])
  rw [fa_len] at hz
  have hsl := slice_to (P := Try.prog) Try.underlying9 (bs (frm [97])) 3 3 rfl (by omega)
  rw [bs_extract] at hsl
  simp only [List.drop_zero, Nat.sub_zero] at hsl
  have hsl2 := slice_to (P := Try.prog) Try.underlying9 (bs (frm [97])) 2 2 rfl (by omega)
  rw [fa_two] at hsl2
  have hz1 := bs_size (hd [65, 66] 2 1 ++ ctail (hd [65, 66] 2 1))
  rw [head_len] at hz1
  obtain ⟨F, hF⟩ : ∃ F, bs (frm [97]) = F := ⟨_, rfl⟩
  obtain ⟨F3, hF3⟩ : ∃ F3, bs ((frm [97]).take 3) = F3 := ⟨_, rfl⟩
  obtain ⟨H1, hH1⟩ : ∃ H, bs (hd [65, 66] 2 1 ++ ctail (hd [65, 66] 2 1)) = H := ⟨_, rfl⟩
  obtain ⟨H2, hH2⟩ : ∃ H, bs (hd [65, 66] 4 0 ++ ctail (hd [65, 66] 4 0)) = H := ⟨_, rfl⟩
  obtain ⟨H3, hH3⟩ : ∃ H, bs (hd [65, 66] 1 4 ++ ctail (hd [65, 66] 1 4)) = H := ⟨_, rfl⟩
  rw [hF] at HP HG1 HG3 HSP hz hsl hsl2
  rw [hF3] at HG2 hsl
  rw [hH1] at HH1 HO1 hz1
  rw [hH2] at HH2 HO2
  rw [hH3] at HH3 HO3
  clear hF hF3 hH1 hH2 hH3
  go_enter Try.func9, Try.ntmps9
  go_wp2_with fail
  refine (HP.out _).mono ?_
  rintro e w1 ⟨rfl, hb1⟩
  go_wp2_with fail
  refine (HG1.out _).mono ?_
  rintro e w2 ⟨rfl, hb2⟩
  go_wp2_with fail
  refine (HG2.out _).mono ?_
  rintro e w3 ⟨rfl, hb3⟩
  go_wp2_with fail
  refine (HG3.out _).mono ?_
  rintro e w4 ⟨rfl, hb4⟩
  have HB4 := Lib.hid (later (later (later hb1 hb2) hb3) hb4)
  clear hb1 hb2 hb3 hb4
  go_wp2_with fail
  refine (HSP.out _).mono ?_
  rintro e w5 ⟨⟨A, c, rfl⟩, hb5⟩
  go_wp2_with fail
  refine (HH1.out _).mono ?_
  rintro e w6 ⟨rfl, hb6⟩
  go_wp2_with fail
  refine (HO1.out _).mono ?_
  rintro e w7 ⟨rfl, hb7⟩
  have HB7 := Lib.hid (later (later (later HB4.out hb5) hb6) hb7)
  clear hb5 hb6 hb7 HB4
  go_wp2_with fail
  refine (HH2.out _).mono ?_
  rintro e w8 ⟨rfl, hb8⟩
  go_wp2_with fail
  refine (HO2.out _).mono ?_
  rintro e w9 ⟨rfl, hb9⟩
  go_wp2_with fail
  refine (HH3.out _).mono ?_
  rintro e w10 ⟨rfl, hb10⟩
  go_wp2_with fail
  refine (HO3.out _).mono ?_
  rintro e w11 ⟨rfl, hb11⟩
  have HB11 := Lib.hid (later (later (later (later HB7.out hb8) hb9) hb10) hb11)
  clear hb8 hb9 hb10 hb11 HB7
  have hnew := heap_alloc_new w11 (.cells #[.int .u8 1, .int .u8 97] 5 (0, 0))
  have hconv := conv_1a (w11.alloc (.cells #[.int .u8 1, .int .u8 97] 5 (0, 0))).drew w11.heap.size (by show (w11.alloc (.cells #[.int .u8 1, .int .u8 97] 5 (0, 0))).cell? _ = _; rw [cell_of_row _ _ 0 _ _ _ hnew]; rfl) (by show (w11.alloc (.cells #[.int .u8 1, .int .u8 97] 5 (0, 0))).cell? _ = _; rw [cell_of_row _ _ 1 _ _ _ hnew]; rfl)
  have HF := Lib.hid (show Below w.heap.size w (w11.alloc (.cells #[.int .u8 1, .int .u8 97] 5 (0, 0))) from HB11.out.alloc HB11.out.size (.cells #[.int .u8 1, .int .u8 97] 5 (0, 0)))
  clear hnew
  obtain ⟨K2, hK2⟩ : ∃ K, bs [1, 97] = K := ⟨_, rfl⟩
  rw [hK2] at hconv hsl2
  clear hK2
  go_wp2_with fail
  simp only [List.append]
  go_region
  go_wp2
  go_ret
  exact ⟨rfl, HF.out.trans ⟨rfl, rfl, rfl, Nat.le_refl _, fun _ _ => rfl⟩⟩
end Go.Proofs.Ytmaehbcjcifchaa.FrW
