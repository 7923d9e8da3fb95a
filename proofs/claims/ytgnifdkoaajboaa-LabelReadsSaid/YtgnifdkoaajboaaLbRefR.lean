/-
  alluviumref06.Read: THE WALK.
-/
import Derived.Test.YtgnifdkoaajboaaLbRefO
namespace Go.Proofs.Ytgnifdkoaajboaa.FrW
set_option linter.unusedVariables false
open Go.RowKit FrM LabM LbM LabW
/-- What is left to read, behind the labels pre. -/
def RfInv (s : List UInt8) (pre : List Lab) (rest : List UInt8) : Prop := pre.length ≤ 7 ∧ refRd 7 s = (refRd (7 - pre.length) rest).map (pre ++ ·)
theorem RfInv.zero (s : List UInt8) : RfInv s [] s := ⟨by simp, by show _ = (refRd 7 s).map _; cases refRd 7 s <;> simp⟩
theorem RfInv.fin {s : List UInt8} {pre : List Lab} {rest : List UInt8} (h : RfInv s pre rest) (h2 : pre.length = 7 ∨ rest.length ≤ 1) : refRd 7 s = some pre := by
  have e : refRd (7 - pre.length) rest = some [] := by
    rcases h2 with h2 | h2
    · rw [h2]; rfl
    · cases hk : 7 - pre.length with
      | zero => rfl
      | succ k => unfold refRd; rw [if_pos h2]
  rw [h.2, e]; simp
theorem RfInv.step {s : List UInt8} {pre : List Lab} {rest : List UInt8} (h : RfInv s pre rest) (h1 : pre.length ≤ 6) (h2 : 1 < rest.length) :
    (wd 61 rest = none → refRd 7 s = none) ∧ (∀ n a, wd 61 rest = some (n, a) → (a = [] → refRd 7 s = none) ∧ (a ≠ [] → wd 34 (a.drop 1) = none → refRd 7 s = none) ∧ ∀ x b, a ≠ [] → wd 34 (a.drop 1) = some (x, b) → (b = [] → refRd 7 s = none) ∧ (b ≠ [] → RfInv s (pre ++ [(tx n, tx x)]) (b.drop 1))) := by
  obtain ⟨g1, g2⟩ := h
  obtain ⟨k, hk⟩ : ∃ k, 7 - pre.length = k + 1 := ⟨6 - pre.length, by omega⟩
  obtain ⟨P0, hP⟩ : ∃ P, refRd 7 s = P := ⟨_, rfl⟩
  have HI : ∀ pre' rest', pre'.length ≤ 7 → P0 = (refRd (7 - pre'.length) rest').map (pre' ++ ·) → RfInv s pre' rest' := fun pre' rest' a b => ⟨a, by rw [hP]; exact b⟩
  rw [hP] at g2 ⊢
  clear hP
  rw [hk, refRd, if_neg (by omega)] at g2
  refine ⟨fun hc => ?_, fun n a hc => ⟨fun ha => ?_, fun ha hw => ?_, fun x b ha hw => ⟨fun hb => ?_, fun hb => ?_⟩⟩⟩
  · rw [hc] at g2; exact g2
  · rw [hc] at g2; simp only [] at g2; rw [if_pos ha] at g2; exact g2
  · rw [hc] at g2; simp only [] at g2; rw [if_neg ha, hw] at g2; exact g2
  · rw [hc] at g2; simp only [] at g2; rw [if_neg ha, hw] at g2; simp only [] at g2; rw [if_pos hb] at g2; exact g2
  · rw [hc] at g2; simp only [] at g2; rw [if_neg ha, hw] at g2; simp only [] at g2; rw [if_neg hb] at g2
    refine HI _ _ (by rw [List.length_append, List.length_singleton]; omega) ?_
    rw [g2, show 7 - (pre ++ [(tx n, tx x)]).length = k by rw [List.length_append, List.length_singleton]; omega]
    cases refRd k (b.drop 1) <;> simp
theorem nil_is : (bs ([] : List UInt8)).toList.isEmpty = true := by rw [ByteArray.toList_eq, bs_list]; rfl
set_option maxRecDepth 20000 in
set_option maxHeartbeats 4000000 in
theorem rread_any (s : List UInt8) (w : World) (hs : s.length ≤ 300) :
    Calls Try.prog 28 #[.string (bs s)] w fun e w' => LabPost w (readB s) e w' := by
  by_cases hs0 : s = []
  · subst hs0
    have e1 : readB [] = none := rfl
    rw [e1]
    have hbe := nil_is
    obtain ⟨Q, hQ⟩ : ∃ Q : Option (List Lab) → Ending → World → Prop, LabPost w = Q := ⟨_, rfl⟩
    have HQ0 : Hid (∀ w', Below w.heap.size w w' → Q none (.returned (.tuple #[.slice none 0 0, .bool false])) w') := Lib.hid (by rw [← hQ]; exact fun w' h => LabPost.no h)
    rw [hQ]
    obtain ⟨Y, hY⟩ : ∃ Y, bs ([] : List UInt8) = Y := ⟨_, rfl⟩
    rw [hY] at hbe ⊢
    clear hY hQ hs e1
    go_enter Try.func28, Try.ntmps28
    go_wp2_with fail
    exact HQ0.out _ (Below.refl _ _)
  obtain ⟨R, hR⟩ : ∃ R, readB s = R := ⟨_, rfl⟩
  have hR0 := hR
  unfold readB at hR
  rw [if_neg hs0] at hR
  have HR := Lib.hid hR
  rw [hR0]
  obtain ⟨Q, hQ⟩ : ∃ Q : Option (List Lab) → Ending → World → Prop, LabPost w = Q := ⟨_, rfl⟩
  have HQ0 : Hid (∀ w', Below w.heap.size w w' → Q none (.returned (.tuple #[.slice none 0 0, .bool false])) w') := Lib.hid (by rw [← hQ]; exact fun w' h => LabPost.no h)
  have HQ1 : Hid (∀ (A : Option Addr) (n c : Nat) (l : List Lab) (w' : World), l.length = n → Comes w' 2 encL okL A n c l → Below w.heap.size w w' → Q (some l) (.returned (.tuple #[.slice A n c, .bool true])) w') := Lib.hid (by rw [← hQ]; exact fun A n c l w' h1 h2 h3 => LabPost.yes h1 h2 h3)
  rw [hQ]
  clear hR hR0 hQ
  have HBQ := Lib.hid (fun l => bs_beq l s)
  have hz := bs_size s
  have hbe := nil_beq s hs0
  have hpos : 0 < s.length := List.length_pos_iff.2 hs0
  have hs1 := slice_from (P := Try.prog) Try.underlying9 (bs s) 1 1 rfl (by omega)
  rw [bs_extract, hz, List.take_of_length_le (by rw [List.length_drop]; omega)] at hs1
  obtain ⟨X, hX⟩ : ∃ X, bs s = X := ⟨_, rfl⟩
  obtain ⟨X1, hX1⟩ : ∃ X, bs (s.drop 1) = X := ⟨_, rfl⟩
  rw [hX] at HBQ hbe hs1 hz ⊢
  rw [hX1] at hs1
  have HX := Lib.hid (And.intro hX1 (show (s.drop 1).length ≤ 300 by rw [List.length_drop]; omega))
  obtain ⟨q, hq⟩ : ∃ q, s.length = q := ⟨_, rfl⟩
  rw [hq] at hz hpos hs
  clear hX hX1 hq hs0
  generalize s.drop 1 = s1 at *
  go_enter Try.func28, Try.ntmps28
  go_wp2_with fail
  go_loopw [4, 5, 6, 7, 8, 9, 10, 11, 12] (fun v4 v5 v6 _ _ _ _ _ _ wr => ∃ (pre : List Lab) (rest : List UInt8), RfInv s1 pre rest ∧ rest.length ≤ 300 ∧ v5 = .string (bs rest) ∧ v6 = .int .i64 (pre.length : Int) ∧ wr.ownsRow w.heap.size 38 2 v4 pre.length (pre.flatMap encL) ∧ shortL pre ∧ Below w.heap.size w wr) (fun v4 _ _ _ _ _ _ _ _ _ => 8 - slLen v4)
  case atStart => exact ⟨[], s1, RfInv.zero s1, HX.out.2, by rw [HX.out.1], rfl, World.ownsRow_nil _ _ _ _, fun x hx => (by cases hx), Below.refl _ _⟩
  case round =>
    clear hs1 hbe
    obtain ⟨pre, rest, hinv, hrl, rfl, rfl, hown, hsh, ho⟩ := hrel
    have hz := bs_size rest
    obtain ⟨A, c, rfl, hpn, hcm⟩ := Comes.of_own hown encL_len (by decide) (short_ok hsh)
    have hp7 := hinv.1
    have hbz := ho.size
    by_cases hgo : pre.length ≤ 6 ∧ 1 < rest.length
    · obtain ⟨h6, h1⟩ := hgo
      obtain ⟨st1, st2⟩ := hinv.step h6 h1
      have C1 : Hid (∀ W, Calls Try.prog 45 #[.string (bs rest), .int .u8 61] W fun e w' => e = .returned (qtV (wd 61 rest)) ∧ Below W.heap.size W w') := Lib.hid (fun W => rword_any 61 61 rfl (by decide) rest W (by omega))
      have HW := Lib.hid (And.intro ho (And.intro hown (And.intro hsh hrl)))
      obtain ⟨n, hn⟩ : ∃ n, pre.length = n := ⟨_, rfl⟩
      have HN := Lib.hid hn
      rw [hn] at h6 hp7 HW ⊢
      obtain ⟨z, hzz⟩ : ∃ z, rest.length = z := ⟨_, rfl⟩
      rw [hzz] at hz h1 HW
      have r1 : (z : Int) > 1 := by omega
      have n6 : (n : Int) < 7 := by omega
      cases hct : wd 61 rest with
      | none =>
        rw [hct, show qtV none = .tuple #[.string ⟨#[]⟩, .string ⟨#[]⟩, .bool false] from rfl] at C1
        have hRn : R = none := by rw [← HR.out, st1 hct]
        subst hRn
        obtain ⟨Y, hY⟩ : ∃ Y, bs rest = Y := ⟨_, rfl⟩
        rw [hY] at hz C1 ⊢
        clear hY hct st1 st2 hinv hrl hown hsh ho hcm hpn hn hzz
        go_wp2_with fail
        refine (C1.out _).mono ?_
        rintro e w1 ⟨rfl, hb1⟩
        have HE2 := Lib.hid (later HW.out.1 hb1)
        clear hb1
        go_wp2_with fail
        exact HQ0.out _ HE2.out
      | some p =>
        obtain ⟨nm, vl⟩ := p
        rw [hct, show qtV (some (nm, vl)) = .tuple #[.string (bs nm), .string (bs vl), .bool true] from rfl] at C1
        obtain ⟨st3, st4, st5⟩ := st2 nm vl hct
        have hlen1 := wd_len _ _ _ _ _ (Nat.le_refl _) hct
        have hzv := bs_size vl
        by_cases hvl : vl = []
        · have hRn : R = none := by rw [← HR.out, st3 hvl]
          subst hRn
          subst hvl
          have hbv := nil_is
          obtain ⟨Y, hY⟩ : ∃ Y, bs rest = Y := ⟨_, rfl⟩
          obtain ⟨V, hV⟩ : ∃ Y, bs ([] : List UInt8) = Y := ⟨_, rfl⟩
          obtain ⟨M, hM⟩ : ∃ Y, bs nm = Y := ⟨_, rfl⟩
          rw [hY] at hz C1 ⊢
          rw [hV, hM] at C1
          rw [hV] at hbv
          clear hY hV hM hct st1 st2 st3 st4 st5 hinv hrl hown hsh ho hcm hpn hn hzz hzv hlen1
          go_wp2_with fail
          refine (C1.out _).mono ?_
          rintro e w1 ⟨rfl, hb1⟩
          have HE2 := Lib.hid (later HW.out.1 hb1)
          clear hb1
          go_wp2_with fail
          exact HQ0.out _ HE2.out
        have hbv := nil_beq vl hvl
        have hvpos : 0 < vl.length := List.length_pos_iff.2 hvl
        have hsv := slice_from (P := Try.prog) Try.underlying9 (bs vl) 1 1 rfl (by omega)
        rw [bs_extract, hzv, List.take_of_length_le (by rw [List.length_drop]; omega)] at hsv
        have hvd : (vl.drop 1).length = vl.length - 1 := List.length_drop
        have C2 : Hid (∀ W, Calls Try.prog 45 #[.string (bs (vl.drop 1)), .int .u8 34] W fun e w' => e = .returned (qtV (wd 34 (vl.drop 1))) ∧ Below W.heap.size W w') := Lib.hid (fun W => rword_any 34 34 rfl (by decide) (vl.drop 1) W (by omega))
        obtain ⟨zv, hzv2⟩ : ∃ z, vl.length = z := ⟨_, rfl⟩
        rw [hzv2] at hzv hvpos hlen1 hvd
        have rv1 : (1 : Int) ≤ (zv : Int) := by omega
        cases hwd : wd 34 (vl.drop 1) with
        | none =>
          rw [hwd, show qtV none = .tuple #[.string ⟨#[]⟩, .string ⟨#[]⟩, .bool false] from rfl] at C2
          have hRn : R = none := by rw [← HR.out, st4 hvl hwd]
          subst hRn
          obtain ⟨Y, hY⟩ : ∃ Y, bs rest = Y := ⟨_, rfl⟩
          obtain ⟨V, hV⟩ : ∃ Y, bs vl = Y := ⟨_, rfl⟩
          obtain ⟨V1, hV1⟩ : ∃ Y, bs (vl.drop 1) = Y := ⟨_, rfl⟩
          obtain ⟨M, hM⟩ : ∃ Y, bs nm = Y := ⟨_, rfl⟩
          rw [hY] at hz C1 ⊢
          rw [hV, hM] at C1
          rw [hV] at hbv hsv hzv
          rw [hV1] at hsv C2
          clear hY hV hV1 hM hct hwd st1 st2 st3 st4 st5 hinv hrl hown hsh ho hcm hpn hn hzz hlen1 hvl hvd hzv2
          go_wp2_with fail
          refine (C1.out _).mono ?_
          rintro e w1 ⟨rfl, hb1⟩
          have HE1 := Lib.hid (later HW.out.1 hb1)
          clear hb1
          go_wp2_with fail
          refine (C2.out _).mono ?_
          rintro e w2 ⟨rfl, hb2⟩
          have HE2 := Lib.hid (later HE1.out hb2)
          clear hb2
          go_wp2_with fail
          exact HQ0.out _ HE2.out
        | some pq =>
          obtain ⟨x, b⟩ := pq
          rw [hwd, show qtV (some (x, b)) = .tuple #[.string (bs x), .string (bs b), .bool true] from rfl] at C2
          obtain ⟨st6, st7⟩ := st5 x b hvl hwd
          have hlen2 := wd_len _ _ _ _ _ (Nat.le_refl _) hwd
          have hzb := bs_size b
          by_cases hb0 : b = []
          · have hRn : R = none := by rw [← HR.out, st6 hb0]
            subst hRn
            subst hb0
            have hbb := nil_is
            obtain ⟨Y, hY⟩ : ∃ Y, bs rest = Y := ⟨_, rfl⟩
            obtain ⟨V, hV⟩ : ∃ Y, bs vl = Y := ⟨_, rfl⟩
            obtain ⟨V1, hV1⟩ : ∃ Y, bs (vl.drop 1) = Y := ⟨_, rfl⟩
            obtain ⟨M, hM⟩ : ∃ Y, bs nm = Y := ⟨_, rfl⟩
            obtain ⟨U, hU⟩ : ∃ Y, bs x = Y := ⟨_, rfl⟩
            obtain ⟨B, hB⟩ : ∃ Y, bs ([] : List UInt8) = Y := ⟨_, rfl⟩
            rw [hY] at hz C1 ⊢
            rw [hV, hM] at C1
            rw [hV] at hbv hsv hzv
            rw [hV1] at hsv C2
            rw [hU, hB] at C2
            rw [hB] at hbb
            clear hY hV hV1 hM hU hB hct hwd st1 st2 st3 st4 st5 st6 st7 hinv hrl hown hsh ho hcm hpn hn hzz hlen1 hlen2 hvl hvd hzv2 hzb
            go_wp2_with fail
            refine (C1.out _).mono ?_
            rintro e w1 ⟨rfl, hb1⟩
            have HE1 := Lib.hid (later HW.out.1 hb1)
            clear hb1
            go_wp2_with fail
            refine (C2.out _).mono ?_
            rintro e w2 ⟨rfl, hb2⟩
            have HE2 := Lib.hid (later HE1.out hb2)
            clear hb2
            go_wp2_with fail
            exact HQ0.out _ HE2.out
          have hbb := nil_beq b hb0
          have hbpos : 0 < b.length := List.length_pos_iff.2 hb0
          have hsb := slice_from (P := Try.prog) Try.underlying9 (bs b) 1 1 rfl (by omega)
          rw [bs_extract, hzb, List.take_of_length_le (by rw [List.length_drop]; omega)] at hsb
          have HST := Lib.hid (And.intro (st7 hb0) (And.intro (show (b.drop 1).length ≤ 300 from by rw [List.length_drop]; omega) (short48 hsh (b := nm) (v := x) (by omega) (by omega))))
          obtain ⟨zb, hzb2⟩ : ∃ z, b.length = z := ⟨_, rfl⟩
          rw [hzb2] at hzb hbpos
          have rb1 : (1 : Int) ≤ (zb : Int) := by omega
          obtain ⟨Y, hY⟩ : ∃ Y, bs rest = Y := ⟨_, rfl⟩
          obtain ⟨V, hV⟩ : ∃ Y, bs vl = Y := ⟨_, rfl⟩
          obtain ⟨V1, hV1⟩ : ∃ Y, bs (vl.drop 1) = Y := ⟨_, rfl⟩
          obtain ⟨B, hB⟩ : ∃ Y, bs b = Y := ⟨_, rfl⟩
          obtain ⟨B1, hB1⟩ : ∃ Y, bs (b.drop 1) = Y := ⟨_, rfl⟩
          rw [hB1] at hsb
          have HB1 := Lib.hid hB1
          clear hB1
          rw [hY] at hz C1 ⊢
          rw [hV] at C1 hbv hsv hzv
          rw [hV1] at hsv C2
          rw [hB] at C2 hbb hsb hzb
          clear hY hV hV1 hB hct hwd st1 st2 st3 st4 st5 st6 st7 hinv hrl hown hsh ho hcm hpn hn hzz hlen1 hlen2 hvl hvd hzv2 hzb2 hb0
          go_wp2_with fail
          refine (C1.out _).mono ?_
          rintro e w1 ⟨rfl, hb1⟩
          have HE1 := Lib.hid (And.intro (later HW.out.1 hb1) (own_later HW.out.2.1 hb1))
          clear hb1
          go_wp2_with fail
          refine (C2.out _).mono ?_
          rintro e w2 ⟨rfl, hb2⟩
          have HE2 := Lib.hid (later HE1.out.1 hb2)
          have hown2 := own_later HE1.out.2 hb2
          clear hb2
          go_wp2_with (at_builtin; go_must (refine wpList_append_one rfl _ _ 22 rfl w.heap.size 38 (.agg #[.string ⟨#[]⟩, .string ⟨#[]⟩]) 2 32 Try.underlying22 elemL rfl (by decide) w2 hown2 rfl _ rfl rfl (one2 rfl rfl) (by omega) (by omega) HE2.out.size ?_); intro v' w' hown' hb' hz')
          clear hown2
          go_roundw
          case rel =>
            refine ⟨pre ++ [(tx nm, tx x)], b.drop 1, HST.out.1, HST.out.2.1, by rw [HB1.out], by rw [List.length_append, List.length_singleton, HN.out]; go_num, ?_, HST.out.2.2, HE2.out.trans hb'⟩
            rw [List.length_append, List.length_singleton, List.flatMap_append, List.flatMap_singleton, HN.out]; exact hown'
          case measure =>
            rw [slLen_own hown']
            simp only [slLen]; omega
    · have hfin := hinv.fin (by omega)
      have hR2 := HR.out
      rw [hfin] at hR2
      simp only [] at hR2
      have CK := Lib.hid (rright_any A pre.length c pre wr hcm hsh)
      have CS := Lib.hid (fun W (hb : Below wr.heap.size wr W) => rshow_any A pre.length c pre W (hcm.later hb) (by omega) hsh)
      have HB1 := Lib.hid (HBQ.out (showL pre))
      have HC := Lib.hid (And.intro hcm ho)
      obtain ⟨n, hn⟩ : ∃ n, pre.length = n := ⟨_, rfl⟩
      have HN := Lib.hid hn
      rw [hn] at CK CS HC hgo hp7 ⊢
      obtain ⟨z, hzz⟩ : ∃ z, rest.length = z := ⟨_, rfl⟩
      rw [hzz] at hz hgo
      have hcase : ¬ (n : Int) < 7 ∨ ((n : Int) < 7 ∧ ¬ (z : Int) > 1) := by omega
      obtain ⟨Y, hY⟩ : ∃ Y, bs rest = Y := ⟨_, rfl⟩
      rw [hY] at hz ⊢
      clear hY hgo hfin hinv hrl hown hsh ho hcm hpn hn hzz
      rcases hcase with n6 | ⟨n6, z1⟩
      all_goals (
        cases hck : checkB pre with
        | false =>
          rw [hck, if_neg (by simp)] at hR2
          have hR3 : R = none := hR2.symm
          subst hR3
          rw [hck] at CK
          clear hck hR2 CS HB1
          go_wp2_with fail
          refine CK.out.mono ?_
          rintro e w2 ⟨rfl, hb2⟩
          have HE := Lib.hid (HC.out.2.trans (hb2.mono HC.out.2.size))
          clear hb2
          go_wp2_with fail
          exact HQ0.out _ HE.out
        | true =>
          rw [hck] at CK
          by_cases hsh : showL pre = s
          · rw [if_pos ⟨hck, hsh⟩] at hR2
            have hR3 : R = some pre := hR2.symm
            subst hR3
            have hb1 := HB1.out
            rw [decide_eq_true hsh] at hb1
            obtain ⟨S, hS⟩ : ∃ S, bs (showL pre) = S := ⟨_, rfl⟩
            rw [hS] at hb1 CS
            have hbn : (S.toList != X.toList) = false := by rw [bne, hb1]; rfl
            clear hck hR2 HB1 hsh hS
            go_wp2_with fail
            refine CK.out.mono ?_
            rintro e w2 ⟨rfl, hb2⟩
            have H2 := Lib.hid hb2
            clear hb2
            go_wp2_with fail
            refine (CS.out w2 H2.out).mono ?_
            rintro e w3 ⟨rfl, hb3⟩
            have HE := Lib.hid (HQ1.out A n c pre w3 HN.out (HC.out.1.later (later H2.out hb3)) (HC.out.2.trans ((later H2.out hb3).mono HC.out.2.size)))
            clear hb3
            go_wp2_with fail
            exact HE.out
          · rw [if_neg (fun h => hsh h.2)] at hR2
            have hR3 : R = none := hR2.symm
            subst hR3
            have hb1 := HB1.out
            rw [decide_eq_false hsh] at hb1
            obtain ⟨S, hS⟩ : ∃ S, bs (showL pre) = S := ⟨_, rfl⟩
            rw [hS] at hb1 CS
            have hbn : (S.toList != X.toList) = true := by rw [bne, hb1]; rfl
            clear hck hR2 HB1 hsh hS
            go_wp2_with fail
            refine CK.out.mono ?_
            rintro e w2 ⟨rfl, hb2⟩
            have H2 := Lib.hid hb2
            clear hb2
            go_wp2_with fail
            refine (CS.out w2 H2.out).mono ?_
            rintro e w3 ⟨rfl, hb3⟩
            have HE := Lib.hid (HQ0.out w3 (HC.out.2.trans ((later H2.out hb3).mono HC.out.2.size)))
            clear hb3
            go_wp2_with fail
            exact HE.out)
end Go.Proofs.Ytgnifdkoaajboaa.FrW
