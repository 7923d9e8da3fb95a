/-
  alluviumref09.Open: THE WALK.
-/
import Derived.Test.YtmaehbcjcifchaaFrHead
import Derived.StillTailTactics
import Derived.Deep.QuietTactic
import Derived.BigQuiet
namespace Go.Proofs.Ytmaehbcjcifchaa.FrW
set_option linter.unusedVariables false
open Go.RowKit CrcM CrcW FrM
set_option maxRecDepth 20000 in
set_option maxHeartbeats 4000000 in
theorem ropen_any (s m : List UInt8) (w : World) (hs : s.length ≤ 1099511627776) (hm : m.length ≤ 1099511627776) :
    Calls Try.prog 11 #[.string (bs s), .string (bs m)] w fun e w' => e = .returned (openV (openF s m)) ∧ Below w.heap.size w w' := by
  have hzs := bs_size s
  have hzm := bs_size m
  by_cases hshort : s.length < m.length + 6
  · have e1 : openV (openF s m) = .tuple #[.int .i64 0, .int .i64 0, .string ⟨#[]⟩, .int .i64 9] := by unfold openF; rw [if_pos hshort]; rfl
    rw [e1]
    obtain ⟨X, hX⟩ : ∃ X, bs s = X := ⟨_, rfl⟩
    obtain ⟨Y, hY⟩ : ∃ Y, bs m = Y := ⟨_, rfl⟩
    rw [hX] at hzs ⊢
    rw [hY] at hzm ⊢
    clear hX hY e1
    go_enter Try.func11, Try.ntmps11
    go_wp2
    exact bodyPost_ret (v := .tuple #[.int .i64 0, .int .i64 0, .string ⟨#[]⟩, .int .i64 9]) (by simp [results, Try.results11, go_sem]) rfl ⟨rfl, Below.refl _ _⟩
  have hn6 : m.length + 6 ≤ s.length := by omega
  obtain ⟨R, hR⟩ : ∃ R : Bool, decide (ctail (s.take (m.length + 2)) = (s.drop (m.length + 2)).take 4) = R := ⟨_, rfl⟩
  obtain ⟨M, hM⟩ : ∃ M : Bool, decide (s.take m.length = m) = M := ⟨_, rfl⟩
  have hi1 : m.length < s.length := by omega
  have hi2 : m.length + 1 < s.length := by omega
  obtain ⟨yg, hyg⟩ : ∃ y, s[m.length] = y := ⟨_, rfl⟩
  obtain ⟨yf, hyf⟩ : ∃ y, s[m.length + 1] = y := ⟨_, rfl⟩
  have hgd : s.getD m.length 0 = yg := by rw [List.getD_eq_getElem?_getD, List.getElem?_eq_getElem hi1, hyg]; rfl
  have hfd : s.getD (m.length + 1) 0 = yf := by rw [List.getD_eq_getElem?_getD, List.getElem?_eq_getElem hi2, hyf]; rfl
  have hgl := yg.toNat_lt
  have hfl := yf.toNat_lt
  obtain ⟨zg, hzg⟩ : ∃ z, yg.toNat = z := ⟨_, rfl⟩
  obtain ⟨zf, hzf⟩ : ∃ z, yf.toNat = z := ⟨_, rfl⟩
  rw [hzg] at hgl
  rw [hzf] at hfl
  have e1 : openV (openF s m) = if R = true ∧ M = true then (if 3 < zg ∨ 3 < zf then .tuple #[.int .i64 0, .int .i64 0, .string ⟨#[]⟩, .int .i64 10] else if zg = 0 then .tuple #[.int .i64 0, .int .i64 0, .string ⟨#[]⟩, .int .i64 9] else .tuple #[.int .i64 (zg : Int), .int .i64 (zf : Int), .string (bs (s.drop (m.length + 6))), .int .i64 0]) else .tuple #[.int .i64 0, .int .i64 0, .string ⟨#[]⟩, .int .i64 9] := by
    unfold openF
    rw [if_neg hshort, hgd, hfd, hzg, hzf]
    by_cases hc : ctail (s.take (m.length + 2)) = (s.drop (m.length + 2)).take 4 ∧ s.take m.length = m
    · rw [if_pos hc, if_pos (show R = true ∧ M = true from ⟨by rw [← hR, decide_eq_true hc.1], by rw [← hM, decide_eq_true hc.2]⟩)]
      by_cases h1 : 3 < zg ∨ 3 < zf
      · rw [if_pos h1, if_pos h1]; rfl
      rw [if_neg h1, if_neg h1]
      by_cases h2 : zg = 0
      · rw [if_pos h2, if_pos h2]; rfl
      · rw [if_neg h2, if_neg h2]; rfl
    · rw [if_neg hc, if_neg (fun h => hc ⟨by have := h.1; rw [← hR] at this; exact of_decide_eq_true this, by have := h.2; rw [← hM] at this; exact of_decide_eq_true this⟩)]; rfl
  rw [e1]
  have hsm := slice_from (P := Try.prog) Try.underlying9 (bs s) ((m.length : Int) + 2 + 4) (m.length + 6) (by omega) (by omega)
  rw [bs_extract, hzs, List.take_of_length_le (by rw [List.length_drop]; omega)] at hsm
  have hsh := slice_to (P := Try.prog) Try.underlying9 (bs s) ((m.length : Int) + 2) (m.length + 2) (by omega) (by omega)
  rw [bs_extract] at hsh
  simp only [List.drop_zero, Nat.sub_zero] at hsh
  have hmid := slice_mid (P := Try.prog) Try.underlying9 (bs s) ((m.length : Int) + 2) ((m.length : Int) + 2 + 4) (m.length + 2) (m.length + 2 + 4) (by omega) (by omega) (by omega) (by omega)
  rw [bs_extract, show m.length + 2 + 4 - (m.length + 2) = 4 by omega] at hmid
  have HTL : Hid (∀ W, Calls Try.prog 19 #[.string (bs (s.take (m.length + 2)))] W fun e w' => e = .returned (.string (bs (ctail (s.take (m.length + 2))))) ∧ Below W.heap.size W w') := Lib.hid (fun W => rtail_any (bs (s.take (m.length + 2))) W (by rw [bs_size, List.length_take]; unfold maxLen; omega))
  have hcr : ((bs ((s.drop (m.length + 2)).take 4)).toList == (bs (ctail (s.take (m.length + 2)))).toList) = R := by
    rw [bs_beq, ← hR]
    by_cases h : ctail (s.take (m.length + 2)) = (s.drop (m.length + 2)).take 4
    · rw [decide_eq_true h, decide_eq_true h.symm]
    · rw [decide_eq_false h, decide_eq_false (fun h2 => h h2.symm)]
  have hsb := slice_to (P := Try.prog) Try.underlying9 (bs s) (m.length : Int) m.length rfl (by omega)
  rw [bs_extract] at hsb
  simp only [List.drop_zero, Nat.sub_zero] at hsb
  have HX1 : ∀ h : m.length < (bs s).size, ((bs s)[m.length]'h).toNat = zg := fun h => by rw [← hzg, ← hyg]; rfl
  have HX2 : ∀ h : m.length + 1 < (bs s).size, ((bs s)[m.length + 1]'h).toNat = zf := fun h => by rw [← hzf, ← hyf]; rfl
  have hneq := bs_beq (s.take m.length) m
  rw [hM] at hneq
  have ha3 := andNot3 zf hfl
  obtain ⟨z4, hz4⟩ : ∃ z, zf / 4 * 4 = z := ⟨_, rfl⟩
  rw [hz4] at ha3
  obtain ⟨P2, hP2⟩ : ∃ P2, bs (s.drop (m.length + 6)) = P2 := ⟨_, rfl⟩
  obtain ⟨P3, hP3⟩ : ∃ P3, bs (s.take m.length) = P3 := ⟨_, rfl⟩
  rw [hP2] at hsm ⊢
  rw [hP3] at hsb hneq
  obtain ⟨P4, hP4⟩ : ∃ P4, bs (s.take (m.length + 2)) = P4 := ⟨_, rfl⟩
  obtain ⟨P5, hP5⟩ : ∃ P5, bs ((s.drop (m.length + 2)).take 4) = P5 := ⟨_, rfl⟩
  obtain ⟨P6, hP6⟩ : ∃ P6, bs (ctail (s.take (m.length + 2))) = P6 := ⟨_, rfl⟩
  rw [hP4, hP6] at HTL
  rw [hP4] at hsh
  rw [hP5] at hmid hcr
  rw [hP6] at hcr
  clear hP4 hP5 hP6
  obtain ⟨X, hX⟩ : ∃ X, bs s = X := ⟨_, rfl⟩
  obtain ⟨Y, hY⟩ : ∃ Y, bs m = Y := ⟨_, rfl⟩
  have HY1 : ∀ h : m.length < X.size, (X[m.length]'h).toNat = zg := by subst hX; exact HX1
  have HY2 : ∀ h : m.length + 1 < X.size, (X[m.length + 1]'h).toNat = zf := by subst hX; exact HX2
  have HXX := Lib.hid (And.intro HY1 HY2)
  clear HX1 HX2 HY1 HY2
  rw [hX] at hzs hsh hsm hmid hsb ⊢
  rw [hY] at hzm hneq ⊢
  obtain ⟨n, hn⟩ : ∃ n, m.length = n := ⟨_, rfl⟩
  obtain ⟨q, hq⟩ : ∃ q, s.length = q := ⟨_, rfl⟩
  rw [hn] at hm hn6 hzm hsm hsh hsb HXX
  rw [hq] at hs hn6 hzs
  rw [hn] at hmid
  clear e1 hX hY hP2 hP3 hshort hR hM hyg hyf hgd hfd hzg hzf hi1 hi2 hn hq
  have hbz : zg < 256 := hgl
  have hsum : IntKind.i64.wrap ((n : Int) + 2 + 4) = (n : Int) + 2 + 4 := by rw [IntKind.wrap_i64]; omega
  have hsm0 : (0 : Int) ≤ (n : Int) + 2 + 4 := by omega
  have hsm2 : (n : Int) + 2 ≤ (q : Int) := by omega
  have hsm3 : (0 : Int) ≤ (n : Int) + 2 := by omega
  cases M with
  | false =>
    rw [if_neg (by simp)]
    have hneq2 : (P3.toList != Y.toList) = true := by rw [bne, hneq]; rfl
    clear hsm HXX
    go_enter Try.func11, Try.ntmps11
    go_wp2_with fail
    go_quiet (fail)
    go_wp2
    exact bodyPost_ret (v := .tuple #[.int .i64 0, .int .i64 0, .string ⟨#[]⟩, .int .i64 9]) (by simp [results, Try.results11, go_sem]) rfl ⟨rfl, below_draws (Below.refl _ _)⟩
  | true =>
    cases R with
    | false =>
      rw [if_neg (by simp)]
      have hneq2 : (P3.toList != Y.toList) = false := by rw [bne, hneq]; rfl
      have hcr2 : (P5.toList != P6.toList) = true := by rw [bne, hcr]; rfl
      clear hsm HXX
      go_enter Try.func11, Try.ntmps11
      go_wp2_with fail
      go_region_held3 (fun W : World => Below w.heap.size w W) (first | exact (show Below w.heap.size w w.drew from ⟨rfl, rfl, rfl, Nat.le_refl _, fun _ _ => rfl⟩) | exact later (by assumption) (by assumption)) ((go_at_call 19; refine (HTL.out _).mono ?_; rintro e w1 ⟨rfl, hb1⟩))
      rename_i hh
      have HB1 := Lib.hid hh
      clear hh
      go_wp2
      exact bodyPost_ret (v := .tuple #[.int .i64 0, .int .i64 0, .string ⟨#[]⟩, .int .i64 9]) (by simp [results, Try.results11, go_sem]) rfl ⟨rfl, HB1.out.trans ⟨rfl, rfl, rfl, Nat.le_refl _, fun _ _ => rfl⟩⟩
    | true =>
      have hneq2 : (P3.toList != Y.toList) = false := by rw [bne, hneq]; rfl
      have hcr2 : (P5.toList != P6.toList) = false := by rw [bne, hcr]; rfl
      have hix1 : n < X.size := by omega
      have hg1 := HXX.out.1 hix1
      obtain ⟨k1, hk1⟩ : ∃ k1, n + 1 = k1 := ⟨_, rfl⟩
      have hki : (n : Int) + 2 - 1 = (k1 : Int) := by omega
      have hix2 : k1 < X.size := by omega
      have hg2 : (X[k1]'hix2).toNat = zf := by subst hk1; exact HXX.out.2 hix2
      clear hk1
      rw [if_pos (show true = true ∧ true = true from ⟨rfl, rfl⟩)]
      by_cases h3 : 3 < zg
      · rw [if_pos (.inl h3)]
        go_enter Try.func11, Try.ntmps11
        go_wp2_with fail
        go_region_held3 (fun W : World => Below w.heap.size w W) (first | exact (show Below w.heap.size w w.drew from ⟨rfl, rfl, rfl, Nat.le_refl _, fun _ _ => rfl⟩) | exact later (by assumption) (by assumption)) ((go_at_call 19; refine (HTL.out _).mono ?_; rintro e w1 ⟨rfl, hb1⟩))
        rename_i hh
        have HB1 := Lib.hid hh
        clear hh
        go_wp2
        exact bodyPost_ret (v := .tuple #[.int .i64 0, .int .i64 0, .string ⟨#[]⟩, .int .i64 10]) (by simp [results, Try.results11, go_sem]) rfl ⟨rfl, HB1.out.trans ⟨rfl, rfl, rfl, Nat.le_refl _, fun _ _ => rfl⟩⟩
      by_cases h4 : 3 < zf
      · rw [if_pos (.inr h4)]
        have h4b : ((z4 : Int) == 0) = false := by simp; omega
        have h4e : ((z4 : Int) != 0) = true := by simp; omega
        have h4f : ¬ ((z4 : Int) = 0) := by omega
        have h4d : ¬ (3 : Int) < (zg : Int) := by omega
        go_enter Try.func11, Try.ntmps11
        go_wp2_with fail
        go_region_held3 (fun W : World => Below w.heap.size w W) (first | exact (show Below w.heap.size w w.drew from ⟨rfl, rfl, rfl, Nat.le_refl _, fun _ _ => rfl⟩) | exact later (by assumption) (by assumption)) ((go_at_call 19; refine (HTL.out _).mono ?_; rintro e w1 ⟨rfl, hb1⟩))
        rename_i hh
        have HB1 := Lib.hid hh
        clear hh
        go_wp2
        exact bodyPost_ret (v := .tuple #[.int .i64 0, .int .i64 0, .string ⟨#[]⟩, .int .i64 10]) (by simp [results, Try.results11, go_sem]) rfl ⟨rfl, HB1.out.trans ⟨rfl, rfl, rfl, Nat.le_refl _, fun _ _ => rfl⟩⟩
      rw [if_neg (by omega)]
      have h4c : z4 = 0 := by omega
      rw [h4c] at ha3
      by_cases h0 : zg = 0
      · rw [if_pos h0]
        subst h0
        go_enter Try.func11, Try.ntmps11
        go_wp2_with fail
        go_region_held3 (fun W : World => Below w.heap.size w W) (first | exact (show Below w.heap.size w w.drew from ⟨rfl, rfl, rfl, Nat.le_refl _, fun _ _ => rfl⟩) | exact later (by assumption) (by assumption)) ((go_at_call 19; refine (HTL.out _).mono ?_; rintro e w1 ⟨rfl, hb1⟩))
        rename_i hh
        have HB1 := Lib.hid hh
        clear hh
        go_wp2
        exact bodyPost_ret (v := .tuple #[.int .i64 0, .int .i64 0, .string ⟨#[]⟩, .int .i64 9]) (by simp [results, Try.results11, go_sem]) rfl ⟨rfl, HB1.out.trans ⟨rfl, rfl, rfl, Nat.le_refl _, fun _ _ => rfl⟩⟩
      · rw [if_neg h0]
        have h0b : ((zg : Int) == 0) = false := by simp; omega
        go_enter Try.func11, Try.ntmps11
        go_wp2_with fail
        go_region_held3 (fun W : World => Below w.heap.size w W) (first | exact (show Below w.heap.size w w.drew from ⟨rfl, rfl, rfl, Nat.le_refl _, fun _ _ => rfl⟩) | exact later (by assumption) (by assumption)) ((go_at_call 19; refine (HTL.out _).mono ?_; rintro e w1 ⟨rfl, hb1⟩))
        rename_i hh
        have HB1 := Lib.hid hh
        clear hh
        go_wp2_with fail
        try go_quiet (fail)
        go_wp2
        exact bodyPost_ret (v := .tuple #[.int .i64 (zg : Int), .int .i64 (zf : Int), .string P2, .int .i64 0]) (by simp [results, Try.results11, go_sem]) rfl ⟨rfl, HB1.out.trans ⟨rfl, rfl, rfl, Nat.le_refl _, fun _ _ => rfl⟩⟩
end Go.Proofs.Ytmaehbcjcifchaa.FrW
