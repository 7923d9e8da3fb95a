/-
  frame.Head, frame.Open; alluviumref09.Head, Open: THE WALKS.
-/
import Derived.Test.YtmaehbcjcifchaaFrGet
import Derived.Test.YtmaehbcjcifchaaCrcRefF
import Derived.Deep.RegionHeld3
namespace Go.Proofs.Ytmaehbcjcifchaa.FrW
set_option linter.unusedVariables false
open Go.RowKit CrcM CrcW FrM
def hdB (x : Int) : UInt8 := UInt8.ofNat (x % 256).toNat
theorem hdB_nat (x : Int) : ((hdB x).toNat : Int) = x % 256 := by unfold hdB; rw [byte_nat _ (by omega)]; omega
def hd (m : List UInt8) (g f : Int) : List UInt8 := m ++ [hdB g, hdB f]
theorem conv_two (w : World) (g f : Int) :
    (convert 39 9 (.slice (some ⟨w.heap.size, 0, none⟩) 2 2)).run Try.prog (w.alloc (.cells #[.int .u8 (g % 256), .int .u8 (f % 256)] 5 (0, 0))) =
      .ok (.string (bs [hdB g, hdB f])) (w.alloc (.cells #[.int .u8 (g % 256), .int .u8 (f % 256)] 5 (0, 0))) := by
  refine run_convert_bytes_back (P := Try.prog) _ 39 9 5 ⟨w.heap.size, 0, none⟩ 2 [hdB g, hdB f] Try.underlying39 Try.underlying5 Try.underlying9 ?_
  intro j hj
  have hj4 : j < 2 := hj
  have ha : (⟨w.heap.size, 0, none⟩ : Addr).add j = ⟨w.heap.size, j, none⟩ := by unfold Addr.add; split <;> simp_all
  rw [ha, World.cell?_alloc_mark]
  rcases (show j = 0 ∨ j = 1 by omega) with rfl | rfl <;> simp [hdB_nat]
set_option maxHeartbeats 1000000 in
theorem head_any (m : List UInt8) (g f : Int) (w : World) (hm : m.length ≤ 1099511627776) :
    Calls Try.prog 12 #[.string (bs m), .int .i64 g, .int .i64 f] w fun e w' => e = .returned (.string (bs (hd m g f ++ ctail (hd m g f)))) ∧ Below w.heap.size w w' := by
  have hz := bs_size m
  have hz2 : (bs [hdB g, hdB f]).size = 2 := rfl
  have hl : (hd m g f).length = m.length + 2 := by simp [hd]
  have HC := Lib.hid (fun W => checked_any (hd m g f) W (by omega))
  have HA : Hid (bs m ++ bs [hdB g, hdB f] = bs (hd m g f)) := Lib.hid (bs_append _ _)
  have hconv := conv_two w g f
  have HB := Lib.hid (show Below w.heap.size w (w.alloc (.cells #[.int .u8 (g % 256), .int .u8 (f % 256)] 5 (0, 0))) from (Below.refl _ _).alloc (Nat.le_refl _) _)
  obtain ⟨X, hX⟩ : ∃ X, bs m = X := ⟨_, rfl⟩
  obtain ⟨Y, hY⟩ : ∃ Y, bs [hdB g, hdB f] = Y := ⟨_, rfl⟩
  obtain ⟨Z, hZ⟩ : ∃ Z, bs (hd m g f ++ ctail (hd m g f)) = Z := ⟨_, rfl⟩
  obtain ⟨T, hT⟩ : ∃ T, bs (hd m g f) = T := ⟨_, rfl⟩
  rw [hX, hY, hT] at HA
  rw [hX] at hz ⊢
  rw [hY] at hz2 hconv
  rw [hZ, hT] at HC
  rw [hZ]
  clear hX hY hZ hT hl
  go_enter Try.func12, Try.ntmps12
  go_wp2_with fail
  rw [show X ++ Y = T from HA.out]
  refine (HC.out _).mono ?_
  rintro e w1 ⟨rfl, hb1⟩
  go_wp2
  go_ret
  exact ⟨rfl, HB.out.trans (hb1.mono (by simp))⟩
set_option maxHeartbeats 1000000 in
theorem rhead_any (m : List UInt8) (g f : Int) (w : World) (hm : m.length ≤ 1099511627776) :
    Calls Try.prog 13 #[.string (bs m), .int .i64 g, .int .i64 f] w fun e w' => e = .returned (.string (bs (hd m g f ++ ctail (hd m g f)))) ∧ Below w.heap.size w w' := by
  have hz := bs_size m
  have hz2 : (bs [hdB g, hdB f]).size = 2 := rfl
  have hl : (hd m g f).length = m.length + 2 := by simp [hd]
  have hz3 : (bs (ctail (hd m g f))).size = 4 := by rw [bs_size, ctail_length]
  have HC : Hid (∀ W, Calls Try.prog 19 #[.string (bs (hd m g f))] W fun e w' => e = .returned (.string (bs (ctail (hd m g f)))) ∧ Below W.heap.size W w') := Lib.hid (fun W => rtail_any (bs (hd m g f)) W (by rw [bs_size]; unfold maxLen; omega))
  have HA : Hid (bs m ++ bs [hdB g, hdB f] = bs (hd m g f)) := Lib.hid (bs_append _ _)
  have HA2 : Hid (bs (hd m g f) ++ bs (ctail (hd m g f)) = bs (hd m g f ++ ctail (hd m g f))) := Lib.hid (bs_append _ _)
  have hz4 := bs_size (hd m g f)
  have hw : ∀ x : Int, x % 256 = (IntKind.u64.wrap x).tmod 256 % 256 := fun x => by
    rw [IntKind.wrap_u64, tmod_of_emod]; omega
  have hconv := conv_two w g f
  rw [hw g, hw f] at hconv
  have HB := Lib.hid (show Below w.heap.size w (w.alloc (.cells #[.int .u8 ((IntKind.u64.wrap g).tmod 256 % 256), .int .u8 ((IntKind.u64.wrap f).tmod 256 % 256)] 5 (0, 0))) from (Below.refl _ _).alloc (Nat.le_refl _) _)
  clear hw
  obtain ⟨X, hX⟩ : ∃ X, bs m = X := ⟨_, rfl⟩
  obtain ⟨Y, hY⟩ : ∃ Y, bs [hdB g, hdB f] = Y := ⟨_, rfl⟩
  obtain ⟨Z, hZ⟩ : ∃ Z, bs (hd m g f ++ ctail (hd m g f)) = Z := ⟨_, rfl⟩
  obtain ⟨T, hT⟩ : ∃ T, bs (hd m g f) = T := ⟨_, rfl⟩
  obtain ⟨U, hU⟩ : ∃ U, bs (ctail (hd m g f)) = U := ⟨_, rfl⟩
  rw [hX, hY, hT] at HA
  rw [hT, hU, hZ] at HA2
  rw [hX] at hz ⊢
  rw [hY] at hz2 hconv
  rw [hT, hU] at HC
  rw [hT] at hz4
  rw [hU] at hz3
  rw [hZ]
  clear hX hY hZ hT hU
  go_enter Try.func13, Try.ntmps13
  go_wp2_with fail
  rw [show X ++ Y = T from HA.out]
  refine (HC.out _).mono ?_
  rintro e w1 ⟨rfl, hb1⟩
  go_wp2
  go_ret
  exact ⟨by rw [← HA2.out]; rfl, HB.out.trans (hb1.mono (by simp))⟩
/-- What a head tells: the generation, the flags, what is behind, the error. -/
def openF (s m : List UInt8) : Int × Int × List UInt8 × Int :=
  if s.length < m.length + 6 then (0, 0, [], 9)
  else if ctail (s.take (m.length + 2)) = (s.drop (m.length + 2)).take 4 ∧ s.take m.length = m then
    if 3 < (s.getD m.length 0).toNat ∨ 3 < (s.getD (m.length + 1) 0).toNat then (0, 0, [], 10)
    else if (s.getD m.length 0).toNat = 0 then (0, 0, [], 9)
    else ((s.getD m.length 0).toNat, (s.getD (m.length + 1) 0).toNat, s.drop (m.length + 6), 0)
  else (0, 0, [], 9)
def openV (x : Int × Int × List UInt8 × Int) : Value := .tuple #[.int .i64 x.1, .int .i64 x.2.1, .string (bs x.2.2.1), .int .i64 x.2.2.2]
theorem bs_beq (a b : List UInt8) : ((bs a).toList == (bs b).toList) = decide (a = b) := by
  rw [ByteArray.toList_eq, ByteArray.toList_eq, bs_list, bs_list]
  by_cases h : a = b
  · subst h; simp
  · rw [decide_eq_false h]; simpa using h
theorem bs_bne (a b : List UInt8) : ((bs a).toList != (bs b).toList) = !decide (a = b) := by
  rw [bne, bs_beq]
theorem andNot3 (f : Nat) (h : f < 256) : bits .andNot .i64 (f : Int) 3 = ((f / 4 * 4 : Nat) : Int) := by
  have : ∀ x : Fin 256, bits .andNot .i64 ((x.val : Nat) : Int) 3 = ((x.val / 4 * 4 : Nat) : Int) := by decide +kernel
  exact this ⟨f, h⟩
set_option maxRecDepth 20000 in
set_option maxHeartbeats 4000000 in
theorem open_any (s m : List UInt8) (w : World) (hs : s.length ≤ 1099511627776) (hm : m.length ≤ 1099511627776) :
    Calls Try.prog 10 #[.string (bs s), .string (bs m)] w fun e w' => e = .returned (openV (openF s m)) ∧ Below w.heap.size w w' := by
  have hzs := bs_size s
  have hzm := bs_size m
  by_cases hshort : s.length < m.length + 6
  · have e1 : openV (openF s m) = .tuple #[.int .i64 0, .int .i64 0, .string ⟨#[]⟩, .int .i64 9] := by unfold openF; rw [if_pos hshort]; rfl
    rw [e1]
    obtain ⟨X, hX⟩ : ∃ X, bs s = X := ⟨_, rfl⟩
    obtain ⟨Y, hY⟩ : ∃ Y, bs m = Y := ⟨_, rfl⟩
    rw [hX] at hzs ⊢
    rw [hY] at hzm ⊢
    clear hX hY e1
    go_enter Try.func10, Try.ntmps10
    go_wp2
    exact bodyPost_ret (v := .tuple #[.int .i64 0, .int .i64 0, .string ⟨#[]⟩, .int .i64 9]) (by simp [results, Try.results10, go_sem]) rfl ⟨rfl, Below.refl _ _⟩
  have hn6 : m.length + 6 ≤ s.length := by omega
  obtain ⟨R, hR⟩ : ∃ R : Bool, decide (ctail (s.take (m.length + 2)) = (s.drop (m.length + 2)).take 4) = R := ⟨_, rfl⟩
  obtain ⟨M, hM⟩ : ∃ M : Bool, decide (s.take m.length = m) = M := ⟨_, rfl⟩
  have hi1 : m.length < s.length := by omega
  have hi2 : m.length + 1 < s.length := by omega
  obtain ⟨yg, hyg⟩ : ∃ y, s[m.length] = y := ⟨_, rfl⟩
  obtain ⟨yf, hyf⟩ : ∃ y, s[m.length + 1] = y := ⟨_, rfl⟩
  have hgd : s.getD m.length 0 = yg := by rw [List.getD_eq_getElem?_getD, List.getElem?_eq_getElem hi1, hyg]; rfl
  have hfd : s.getD (m.length + 1) 0 = yf := by rw [List.getD_eq_getElem?_getD, List.getElem?_eq_getElem hi2, hyf]; rfl
  have hgl := yg.toNat_lt
  have hfl := yf.toNat_lt
  obtain ⟨zg, hzg⟩ : ∃ z, yg.toNat = z := ⟨_, rfl⟩
  obtain ⟨zf, hzf⟩ : ∃ z, yf.toNat = z := ⟨_, rfl⟩
  rw [hzg] at hgl
  rw [hzf] at hfl
  have e1 : openV (openF s m) = if R = true ∧ M = true then (if 3 < zg ∨ 3 < zf then .tuple #[.int .i64 0, .int .i64 0, .string ⟨#[]⟩, .int .i64 10] else if zg = 0 then .tuple #[.int .i64 0, .int .i64 0, .string ⟨#[]⟩, .int .i64 9] else .tuple #[.int .i64 (zg : Int), .int .i64 (zf : Int), .string (bs (s.drop (m.length + 6))), .int .i64 0]) else .tuple #[.int .i64 0, .int .i64 0, .string ⟨#[]⟩, .int .i64 9] := by
    unfold openF
    rw [if_neg hshort, hgd, hfd, hzg, hzf]
    by_cases hc : ctail (s.take (m.length + 2)) = (s.drop (m.length + 2)).take 4 ∧ s.take m.length = m
    · rw [if_pos hc, if_pos (show R = true ∧ M = true from ⟨by rw [← hR, decide_eq_true hc.1], by rw [← hM, decide_eq_true hc.2]⟩)]
      by_cases h1 : 3 < zg ∨ 3 < zf
      · rw [if_pos h1, if_pos h1]; rfl
      rw [if_neg h1, if_neg h1]
      by_cases h2 : zg = 0
      · rw [if_pos h2, if_pos h2]; rfl
      · rw [if_neg h2, if_neg h2]; rfl
    · rw [if_neg hc, if_neg (fun h => hc ⟨by have := h.1; rw [← hR] at this; exact of_decide_eq_true this, by have := h.2; rw [← hM] at this; exact of_decide_eq_true this⟩)]; rfl
  rw [e1]
  have hsm := slice_from (P := Try.prog) Try.underlying9 (bs s) ((m.length : Int) + 2 + 4) (m.length + 6) (by omega) (by omega)
  rw [bs_extract, hzs, List.take_of_length_le (by rw [List.length_drop]; omega)] at hsm
  have hxl : (s.take (m.length + 2 + 4)).length = m.length + 2 + 4 := by rw [List.length_take]; omega
  have hsh := slice_to (P := Try.prog) Try.underlying9 (bs s) ((m.length : Int) + 2 + 4) (m.length + 2 + 4) (by omega) (by omega)
  rw [bs_extract] at hsh
  simp only [List.drop_zero, Nat.sub_zero] at hsh
  have hright : Right (s.take (m.length + 2 + 4)) ↔ ctail (s.take (m.length + 2)) = (s.drop (m.length + 2)).take 4 := by
    unfold Right
    rw [hxl, show m.length + 2 + 4 - 4 = m.length + 2 by omega, List.take_take, Nat.min_eq_left (by omega), List.drop_take, show m.length + 2 + 4 - (m.length + 2) = 4 by omega]
  have hah : CrcW.ahead (bs (s.take (m.length + 2 + 4))) = bs (s.take (m.length + 2)) := by
    unfold CrcW.ahead
    rw [bs_extract, bs_size, hxl, List.drop_zero, show m.length + 2 + 4 - 4 - 0 = m.length + 2 by omega, List.take_take, Nat.min_eq_left (by omega)]
  have HGT : Hid (R = true → ∀ W, Calls Try.prog 18 #[.string (bs (s.take (m.length + 2 + 4)))] W fun e w' => e = .returned (.tuple #[.string (bs (s.take (m.length + 2))), .bool true]) ∧ Below W.heap.size W w') := Lib.hid (fun hr W => by
    rw [← hah]; exact good_yes (bs (s.take (m.length + 2 + 4))) W (by rw [bs_size, hxl]; unfold maxLen; omega) (by rw [bs_size, hxl]; omega) (hright.2 (of_decide_eq_true (hR.trans hr))))
  have HGF : Hid (R = false → ∀ W, Calls Try.prog 18 #[.string (bs (s.take (m.length + 2 + 4)))] W fun e w' => e = .returned (.tuple #[.string ⟨#[]⟩, .bool false]) ∧ Below W.heap.size W w') := Lib.hid (fun hr W =>
    good_no (bs (s.take (m.length + 2 + 4))) W (by rw [bs_size, hxl]; unfold maxLen; omega) (by rw [bs_size, hxl]; omega) (fun h => of_decide_eq_false (hR.trans hr) (hright.1 h)))
  have hzb := bs_size (s.take (m.length + 2))
  rw [List.length_take, Nat.min_eq_left (by omega)] at hzb
  have hsb := slice_to (P := Try.prog) Try.underlying9 (bs (s.take (m.length + 2))) (m.length : Int) m.length rfl (by omega)
  rw [bs_extract] at hsb
  simp only [List.drop_zero, Nat.sub_zero] at hsb
  rw [List.take_take, Nat.min_eq_left (by omega)] at hsb
  have HX1 : ∀ h : m.length < (bs (s.take (m.length + 2))).size, ((bs (s.take (m.length + 2)))[m.length]'h).toNat = zg := fun h => by
    rw [← hzg, ← hyg]
    have e : (s.take (m.length + 2))[m.length]'(by rw [List.length_take]; omega) = s[m.length] := List.getElem_take
    exact congrArg UInt8.toNat e
  have HX2 : ∀ h : m.length + 1 < (bs (s.take (m.length + 2))).size, ((bs (s.take (m.length + 2)))[m.length + 1]'h).toNat = zf := fun h => by
    rw [← hzf, ← hyf]
    have e : (s.take (m.length + 2))[m.length + 1]'(by rw [List.length_take]; omega) = s[m.length + 1] := List.getElem_take
    exact congrArg UInt8.toNat e
  have hneq := bs_beq (s.take m.length) m
  rw [hM] at hneq
  have ha3 := andNot3 zf hfl
  obtain ⟨z4, hz4⟩ : ∃ z, zf / 4 * 4 = z := ⟨_, rfl⟩
  rw [hz4] at ha3
  obtain ⟨P2, hP2⟩ : ∃ P2, bs (s.drop (m.length + 6)) = P2 := ⟨_, rfl⟩
  obtain ⟨P3, hP3⟩ : ∃ P3, bs (s.take m.length) = P3 := ⟨_, rfl⟩
  rw [hP2] at hsm ⊢
  rw [hP3] at hsb hneq
  obtain ⟨P4, hP4⟩ : ∃ P4, bs (s.take (m.length + 2)) = P4 := ⟨_, rfl⟩
  obtain ⟨P5, hP5⟩ : ∃ P5, bs (s.take (m.length + 2 + 4)) = P5 := ⟨_, rfl⟩
  have HY1 : ∀ h : m.length < P4.size, (P4[m.length]'h).toNat = zg := by subst hP4; exact HX1
  have HY2 : ∀ h : m.length + 1 < P4.size, (P4[m.length + 1]'h).toNat = zf := by subst hP4; exact HX2
  rw [hP4] at hzb hsb
  rw [hP4, hP5] at HGT
  rw [hP5] at HGF hsh
  have HXX := Lib.hid (And.intro HY1 HY2)
  clear hright hah hxl HX1 HX2 HY1 HY2 hP4 hP5
  obtain ⟨X, hX⟩ : ∃ X, bs s = X := ⟨_, rfl⟩
  obtain ⟨Y, hY⟩ : ∃ Y, bs m = Y := ⟨_, rfl⟩
  rw [hX] at hzs hsh hsm ⊢
  rw [hY] at hzm hneq ⊢
  obtain ⟨n, hn⟩ : ∃ n, m.length = n := ⟨_, rfl⟩
  obtain ⟨q, hq⟩ : ∃ q, s.length = q := ⟨_, rfl⟩
  rw [hn] at hm hn6 hzm hsm hsh hsb HXX
  rw [hq] at hs hn6 hzs
  rw [hn] at hzb
  clear e1 hX hY hP2 hP3 hshort hR hM hyg hyf hgd hfd hzg hzf hi1 hi2 hn hq
  have hbz : zg < 256 := hgl
  cases R with
  | false =>
    rw [if_neg (by simp)]
    clear hsm hsb HXX HGT
    go_enter Try.func10, Try.ntmps10
    go_wp2_with fail
    refine (HGF.out (by trivial) _).mono ?_
    rintro e w1 ⟨rfl, hb1⟩
    go_wp2
    exact bodyPost_ret (v := .tuple #[.int .i64 0, .int .i64 0, .string ⟨#[]⟩, .int .i64 9]) (by simp [results, Try.results10, go_sem]) rfl ⟨rfl, hb1⟩
  | true =>
    cases M with
    | false =>
      rw [if_neg (by simp)]
      clear hsm HXX HGF
      go_enter Try.func10, Try.ntmps10
      go_wp2_with fail
      refine (HGT.out (by trivial) _).mono ?_
      rintro e w1 ⟨rfl, hb1⟩
      go_wp2
      exact bodyPost_ret (v := .tuple #[.int .i64 0, .int .i64 0, .string ⟨#[]⟩, .int .i64 9]) (by simp [results, Try.results10, go_sem]) rfl ⟨rfl, hb1⟩
    | true =>
      have hix1 : n < P4.size := by omega
      have hg1 := HXX.out.1 hix1
      obtain ⟨k1, hk1⟩ : ∃ k1, n + 1 = k1 := ⟨_, rfl⟩
      have hki : (n : Int) + 2 - 1 = (k1 : Int) := by omega
      have hix2 : k1 < P4.size := by omega
      have hg2 : (P4[k1]'hix2).toNat = zf := by subst hk1; exact HXX.out.2 hix2
      clear hk1
      rw [if_pos (show true = true ∧ true = true from ⟨rfl, rfl⟩)]
      by_cases h3 : 3 < zg
      · rw [if_pos (.inl h3)]
        go_enter Try.func10, Try.ntmps10
        go_wp2_with fail
        refine (HGT.out (by trivial) _).mono ?_
        rintro e w1 ⟨rfl, hb1⟩
        go_wp2_with fail
        try go_quiet (fail)
        go_wp2
        exact bodyPost_ret (v := .tuple #[.int .i64 0, .int .i64 0, .string ⟨#[]⟩, .int .i64 10]) (by simp [results, Try.results10, go_sem]) rfl ⟨rfl, hb1.trans ⟨rfl, rfl, rfl, Nat.le_refl _, fun _ _ => rfl⟩⟩
      by_cases h4 : 3 < zf
      · rw [if_pos (.inr h4)]
        have h4b : ((z4 : Int) == 0) = false := by simp; omega
        have h4e : ((z4 : Int) != 0) = true := by simp; omega
        have h4f : ¬ ((z4 : Int) = 0) := by omega
        have h4d : ¬ (3 : Int) < (zg : Int) := by omega
        go_enter Try.func10, Try.ntmps10
        go_wp2_with fail
        refine (HGT.out (by trivial) _).mono ?_
        rintro e w1 ⟨rfl, hb1⟩
        go_wp2_with fail
        try go_quiet (fail)
        go_wp2
        exact bodyPost_ret (v := .tuple #[.int .i64 0, .int .i64 0, .string ⟨#[]⟩, .int .i64 10]) (by simp [results, Try.results10, go_sem]) rfl ⟨rfl, hb1.trans ⟨rfl, rfl, rfl, Nat.le_refl _, fun _ _ => rfl⟩⟩
      rw [if_neg (by omega)]
      have h4c : z4 = 0 := by omega
      rw [h4c] at ha3
      by_cases h0 : zg = 0
      · rw [if_pos h0]
        subst h0
        go_enter Try.func10, Try.ntmps10
        go_wp2_with fail
        refine (HGT.out (by trivial) _).mono ?_
        rintro e w1 ⟨rfl, hb1⟩
        go_wp2_with fail
        try go_quiet (fail)
        go_wp2
        exact bodyPost_ret (v := .tuple #[.int .i64 0, .int .i64 0, .string ⟨#[]⟩, .int .i64 9]) (by simp [results, Try.results10, go_sem]) rfl ⟨rfl, hb1.trans ⟨rfl, rfl, rfl, Nat.le_refl _, fun _ _ => rfl⟩⟩
      · rw [if_neg h0]
        have h0b : ((zg : Int) == 0) = false := by simp; omega
        go_enter Try.func10, Try.ntmps10
        go_wp2_with fail
        refine (HGT.out (by trivial) _).mono ?_
        rintro e w1 ⟨rfl, hb1⟩
        go_wp2_with fail
        try go_quiet (fail)
        go_wp2_with fail
        try go_quiet (fail)
        go_wp2
        exact bodyPost_ret (v := .tuple #[.int .i64 (zg : Int), .int .i64 (zf : Int), .string P2, .int .i64 0]) (by simp [results, Try.results10, go_sem]) rfl ⟨rfl, hb1.trans ⟨rfl, rfl, rfl, Nat.le_refl _, fun _ _ => rfl⟩⟩
end Go.Proofs.Ytmaehbcjcifchaa.FrW
