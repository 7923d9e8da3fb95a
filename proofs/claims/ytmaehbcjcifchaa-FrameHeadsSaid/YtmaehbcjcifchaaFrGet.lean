/-
  frame.unended, frame.Get: THE WALKS.
-/
import Derived.Test.YtmaehbcjcifchaaFrCur
namespace Go.Proofs.Ytmaehbcjcifchaa.FrW
set_option linter.unusedVariables false
open Go.RowKit CrcM CrcW FrM
set_option maxRecDepth 20000 in
set_option maxHeartbeats 1000000 in
theorem unended_any (l : List UInt8) (w : World) (hl : l.length ≤ 2199023255552) :
    Calls Try.prog 22 #[.string (bs l)] w fun e w' => e = .returned (.bool (unend l)) ∧ w = w' := by
  have hz := bs_size l
  have HG : ∀ (i : Nat) (h : i < (bs l).size) (h2 : i < l.length), (bs l)[i]'h = l[i]'h2 := fun _ _ _ => rfl
  obtain ⟨X, hX⟩ : ∃ X, bs l = X := ⟨_, rfl⟩
  rw [hX] at hz HG ⊢
  have HGG := Lib.hid HG
  clear hX HG
  obtain ⟨r, hr⟩ : ∃ r, unend l = r := ⟨_, rfl⟩
  rw [hr]
  have HR := Lib.hid hr
  clear hr
  obtain ⟨q, hql⟩ : ∃ q, l.length = q := ⟨_, rfl⟩
  rw [hql] at hz hl
  go_enter Try.func22, Try.ntmps22
  go_wp2_with fail
  go_loopw [6] (fun v6 wr => ∃ i : Nat, i ≤ q ∧ v6 = .int .i64 i ∧ ((l.take i).all fun b => decide (128 ≤ b.toNat)) = true ∧ wr = w) (fun v6 _ => q - (intOf v6).toNat)
  case atStart => exact ⟨0, by omega, rfl, rfl, rfl⟩
  case round =>
    obtain ⟨i, hi, rfl, hall, rfl⟩ := hrel
    by_cases hlt : i < q
    · have hil : i < l.length := by omega
      have hix : i < X.size := by omega
      have hg := HGG.out i hix hil
      have htk : l.take (i + 1) = l.take i ++ [l[i]] := by rw [List.take_add_one, List.getElem?_eq_getElem hil]; rfl
      have hmem : l[i] ∈ l := List.getElem_mem hil
      obtain ⟨y, hy⟩ : ∃ y, l[i] = y := ⟨_, rfl⟩
      rw [hy] at hg htk hmem
      have hyl := y.toNat_lt
      obtain ⟨z, hyz⟩ : ∃ z, y.toNat = z := ⟨_, rfl⟩
      have hgz : X[i].toNat = z := by rw [hg]; exact hyz
      rw [hyz] at hyl
      have HT := Lib.hid (And.intro htk (And.intro hall (And.intro hyz hmem)))
      clear hg htk hall hyz hy hmem
      have i0 : (0 : Int) ≤ (i : Int) := by omega
      have i1 : (i : Int) < (q : Int) := by omega
      by_cases h128 : z < 128
      · have hdz : ((z : Int) / 128 == 0) = true := by simp; omega
        have hrf : r = false := by
          rw [← HR.out]; unfold unend
          rw [Bool.and_eq_false_iff]; left
          rw [List.all_eq_false]
          exact ⟨y, HT.out.2.2.2, by rw [HT.out.2.2.1]; simp; omega⟩
        subst hrf
        go_wp2
        go_ret
        exact ⟨rfl, rfl⟩
      · have hdz : ((z : Int) / 128 == 0) = false := by simp; omega
        go_wp2
        go_roundw
        case rel =>
          refine ⟨i + 1, by omega, by go_num, ?_, by first | trivial | rfl⟩
          rw [HT.out.1, List.all_append, HT.out.2.1]
          simp [HT.out.2.2.1]; omega
        case measure => simp [intOf]; omega
    · obtain rfl : i = q := by omega
      rw [List.take_of_length_le (by omega)] at hall
      have hrf : r = decide (i < 10) := by
        rw [← HR.out]; unfold unend; rw [hall, Bool.true_and, hql]
      subst hrf
      clear hall
      go_wp2
      go_ret
      exact ⟨by congr 2; simp; omega, rfl⟩
/-- What Get tells, as values. -/
def getV3 (x : List UInt8 × List UInt8 × Nat) : Value := .tuple #[.string (bs x.1), .string (bs x.2.1), .int .i64 (x.2.2 : Int)]
theorem bs_nil : bs [] = ⟨#[]⟩ := rfl
set_option maxRecDepth 20000 in
set_option maxHeartbeats 2000000 in
theorem get_none_any (l : List UInt8) (most : Int) (w : World) (hl : l.length ≤ 2199023255552) (hg : gs 0 0 l = none) :
    Calls Try.prog 14 #[.string (bs l), .int .i64 most] w fun e w' => e = .returned (getV3 (getF l most)) ∧ Below w.heap.size w w' := by
  have e1 : getV3 (getF l most) = .tuple #[.string ⟨#[]⟩, .string (bs l), .int .i64 (if unend l = true then 1 else 2)] := by
    unfold getF; rw [hg]; simp only []; split <;> rfl
  rw [e1]
  have HU := Lib.hid (fun W => unended_any l W hl)
  have hcA : CurAt (w.alloc (.cells #[.string (bs l), .bool false] 47 (0, 0))) w.heap.size l false := heap_alloc_new w _
  have HC := Lib.hid (csmall_none w.heap.size w.heap.size l _ hcA (Nat.le_refl _) hl hg)
  have HB := Lib.hid (show Below w.heap.size w (w.alloc (.cells #[.string (bs l), .bool false] 47 (0, 0))) from (Below.refl _ _).alloc (Nat.le_refl _) _)
  obtain ⟨X, hX⟩ : ∃ X, bs l = X := ⟨_, rfl⟩
  rw [hX] at HU HC HB ⊢
  obtain ⟨u, hu⟩ : ∃ u, unend l = u := ⟨_, rfl⟩
  rw [hu] at HU ⊢
  clear e1 hcA hg hX hu
  go_enter Try.func14, Try.ntmps14
  go_wp2_with fail
  refine HC.out.mono ?_
  rintro e w1 ⟨rfl, h1, hb1⟩
  have c1 := h1.c1
  have HB1 := Lib.hid (HB.out.trans hb1)
  clear h1 hb1 HB HC
  cases u with
  | true =>
    go_wp2_with fail
    refine (HU.out _).mono ?_
    rintro e w2 ⟨rfl, rfl⟩
    go_wp2
    go_ret3
    exact ⟨rfl, HB1.out⟩
  | false =>
    go_wp2_with fail
    refine (HU.out _).mono ?_
    rintro e w2 ⟨rfl, rfl⟩
    go_wp2
    go_ret3
    exact ⟨rfl, HB1.out⟩
set_option maxRecDepth 20000 in
set_option maxHeartbeats 2000000 in
theorem get_some_any (l : List UInt8) (n k : Nat) (most : Int) (w : World) (hl : l.length ≤ 2199023255552) (hm : most ≤ 9223372036854775807) (hg : gs 0 0 l = some (n, k)) :
    Calls Try.prog 14 #[.string (bs l), .int .i64 most] w fun e w' => e = .returned (getV3 (getF l most)) ∧ Below w.heap.size w w' := by
  obtain ⟨hn64, hk, hsp⟩ := gs_is hg
  have hkl : k ≤ l.length := by
    have := congrArg List.length hsp
    rw [List.length_append, ← hk] at this; omega
  have hcA : CurAt (w.alloc (.cells #[.string (bs l), .bool false] 47 (0, 0))) w.heap.size l false := heap_alloc_new w _
  have HC := Lib.hid (csmall_some w.heap.size w.heap.size l n k _ hcA (Nat.le_refl _) hl hg)
  have HB := Lib.hid (show Below w.heap.size w (w.alloc (.cells #[.string (bs l), .bool false] 47 (0, 0))) from (Below.refl _ _).alloc (Nat.le_refl _) _)
  by_cases hmost : most < 0 ∨ most < (n : Int)
  · have e1 : getV3 (getF l most) = .tuple #[.string ⟨#[]⟩, .string (bs l), .int .i64 2] := by
      unfold getF; rw [hg]; simp only []; rw [if_pos hmost]; rfl
    rw [e1]
    obtain ⟨X, hX⟩ : ∃ X, bs l = X := ⟨_, rfl⟩
    rw [hX] at HC HB ⊢
    clear e1 hcA hg hX hk hsp
    by_cases h0 : most < 0
    · go_enter Try.func14, Try.ntmps14
      go_wp2_with fail
      refine HC.out.mono ?_
      rintro e w1 ⟨rfl, h1, hb1⟩
      have c1 := h1.c1
      have HB1 := Lib.hid (HB.out.trans hb1)
      clear h1 hb1 HB HC
      go_wp2
      go_ret3
      exact ⟨rfl, HB1.out⟩
    · have h2 : most < (n : Int) := by omega
      go_enter Try.func14, Try.ntmps14
      go_wp2_with fail
      refine HC.out.mono ?_
      rintro e w1 ⟨rfl, h1, hb1⟩
      have c1 := h1.c1
      have HB1 := Lib.hid (HB.out.trans hb1)
      clear h1 hb1 HB HC
      go_wp2
      go_ret3
      exact ⟨rfl, HB1.out⟩
  have hm0 : 0 ≤ most := by omega
  have hmn : (n : Int) ≤ most := by omega
  have hzd := bs_size (l.drop k)
  rw [List.length_drop] at hzd
  by_cases hshort : l.length - k < n + 4
  · have e1 : getV3 (getF l most) = .tuple #[.string ⟨#[]⟩, .string (bs l), .int .i64 1] := by
      unfold getF; rw [hg]; simp only []; rw [if_neg hmost, if_pos hshort]; rfl
    rw [e1]
    obtain ⟨X, hX⟩ : ∃ X, bs l = X := ⟨_, rfl⟩
    rw [hX] at HC HB ⊢
    have hsi : ((l.length - k : Nat) : Int) < (n : Int) + 4 := by omega
    clear e1 hcA hg hX hk hsp hmost hshort
    go_enter Try.func14, Try.ntmps14
    go_wp2_with fail
    refine HC.out.mono ?_
    rintro e w1 ⟨rfl, h1, hb1⟩
    have c0 := h1.c0
    have c1 := h1.c1
    obtain ⟨Y, hY⟩ : ∃ Y, bs (l.drop k) = Y := ⟨_, rfl⟩
    rw [hY] at c0 hzd
    obtain ⟨q, hq⟩ : ∃ q, l.length - k = q := ⟨_, rfl⟩
    rw [hq] at hzd hsi
    have hb6 : q ≤ 2199023255552 := by omega
    have HB1 := Lib.hid (HB.out.trans hb1)
    clear h1 hb1 HB HC hY hq
    go_wp2
    go_ret3
    exact ⟨rfl, HB1.out⟩
  · have HTK : Hid (∀ W, CurAt W w.heap.size (l.drop k) false → Calls Try.prog 23 #[.pointer (some ⟨w.heap.size, 0, none⟩), .int .i64 (n : Int)] W fun e w' => e = .returned (.string (bs ((l.drop k).take n))) ∧ CurAt w' w.heap.size (l.drop (k + n)) false ∧ Below w.heap.size W w') := Lib.hid (fun W h => by
      have := ctake_any w.heap.size w.heap.size (l.drop k) n W h (Nat.le_refl _) (by rw [List.length_drop]; omega) (by rw [List.length_drop]; omega)
      rw [List.drop_drop] at this; exact this)
    have hkn : k + n + 4 ≤ l.length := by omega
    have hze := bs_size (l.drop (k + n))
    rw [List.length_drop] at hze
    have hs4 := slice_from (P := Try.prog) Try.underlying9 (bs (l.drop (k + n))) 4 4 rfl (by omega)
    rw [bs_extract, hze, List.drop_drop, List.take_of_length_le (by rw [List.length_drop]; omega)] at hs4
    have hzf := bs_size (l.drop (k + n + 4))
    rw [List.length_drop] at hzf
    have hzl := bs_size l
    have hsh := slice_to (P := Try.prog) Try.underlying9 (bs l) ((k + n + 4 : Nat) : Int) (k + n + 4) rfl (by omega)
    rw [bs_extract] at hsh
    simp only [List.drop_zero, Nat.sub_zero] at hsh
    have hxl : (l.take (k + n + 4)).length = k + n + 4 := by rw [List.length_take]; omega
    have hright : Right (l.take (k + n + 4)) ↔ ctail (l.take (k + n)) = (l.drop (k + n)).take 4 := by
      unfold Right
      rw [hxl, show k + n + 4 - 4 = k + n by omega, List.take_take, Nat.min_eq_left (by omega), List.drop_take, show k + n + 4 - (k + n) = 4 by omega]
    obtain ⟨R, hR⟩ : ∃ R : Bool, decide (ctail (l.take (k + n)) = (l.drop (k + n)).take 4) = R := ⟨_, rfl⟩
    have HGD : Hid (∀ W, Calls Try.prog 18 #[.string (bs (l.take (k + n + 4)))] W fun e w' => (∃ a, e = .returned (.tuple #[.string a, .bool R])) ∧ Below W.heap.size W w') := Lib.hid (fun W => by
      cases R with
      | true =>
        have h := good_yes (bs (l.take (k + n + 4))) W (by rw [bs_size, hxl]; unfold maxLen; omega) (by rw [bs_size, hxl]; omega) (hright.2 (of_decide_eq_true hR))
        exact h.mono fun e w' h => ⟨⟨_, h.1⟩, h.2⟩
      | false =>
        have h := good_no (bs (l.take (k + n + 4))) W (by rw [bs_size, hxl]; unfold maxLen; omega) (by rw [bs_size, hxl]; omega) (fun h => of_decide_eq_false hR (hright.1 h))
        exact h.mono fun e w' h => ⟨⟨_, h.1⟩, h.2⟩)
    have e1 : getV3 (getF l most) = if R = true then .tuple #[.string (bs ((l.drop k).take n)), .string (bs (l.drop (k + n + 4))), .int .i64 0] else .tuple #[.string ⟨#[]⟩, .string (bs l), .int .i64 2] := by
      unfold getF; rw [hg]; simp only []; rw [if_neg hmost, if_neg hshort]
      cases R with
      | true => rw [if_pos (of_decide_eq_true hR)]; rfl
      | false => rw [if_neg (of_decide_eq_false hR)]; rfl
    rw [e1]
    have hsub : (l.length : Int) - ((l.length - (k + n + 4) : Nat) : Int) = ((k + n + 4 : Nat) : Int) := by omega
    have hsi : ¬ ((l.length - k : Nat) : Int) < (n : Int) + 4 := by omega
    obtain ⟨P1, hP1⟩ : ∃ P1, bs ((l.drop k).take n) = P1 := ⟨_, rfl⟩
    obtain ⟨P2, hP2⟩ : ∃ P2, bs (l.drop (k + n + 4)) = P2 := ⟨_, rfl⟩
    obtain ⟨P3, hP3⟩ : ∃ P3, bs (l.take (k + n + 4)) = P3 := ⟨_, rfl⟩
    rw [hP1] at HTK ⊢
    rw [hP2] at hs4 hzf ⊢
    rw [hP3] at HGD hsh
    have hc1 : ∀ W, CurAt W w.heap.size (l.drop k) false → W.cell? ⟨w.heap.size, 0, none⟩ = some (.string (bs (l.drop k))) := fun W h => h.c0
    obtain ⟨P4, hP4⟩ : ∃ P4, bs (l.drop k) = P4 := ⟨_, rfl⟩
    obtain ⟨P5, hP5⟩ : ∃ P5, bs (l.drop (k + n)) = P5 := ⟨_, rfl⟩
    have hc2 : ∀ W, CurAt W w.heap.size (l.drop (k + n)) false → W.cell? ⟨w.heap.size, 0, none⟩ = some (.string P5) := fun W h => by rw [← hP5]; exact h.c0
    rw [hP4] at hzd hc1
    rw [hP5] at hze hs4
    obtain ⟨X, hX⟩ : ∃ X, bs l = X := ⟨_, rfl⟩
    rw [hX] at HC HB hzl hsh ⊢
    obtain ⟨q1, hq1⟩ : ∃ q, l.length - k = q := ⟨_, rfl⟩
    obtain ⟨q2, hq2⟩ : ∃ q, l.length - (k + n) = q := ⟨_, rfl⟩
    obtain ⟨q3, hq3⟩ : ∃ q, l.length - (k + n + 4) = q := ⟨_, rfl⟩
    obtain ⟨q4, hq4⟩ : ∃ q, k + n + 4 = q := ⟨_, rfl⟩
    obtain ⟨q5, hq5⟩ : ∃ q, l.length = q := ⟨_, rfl⟩
    rw [hq3, hq4, hq5] at hsub
    rw [hq4] at hsh
    rw [hq1] at hzd hsi
    rw [hq2] at hze
    rw [hq3] at hzf
    rw [hq5] at hzl hl
    have hb5 : q3 ≤ q5 := by omega
    have hb6 : q1 ≤ 2199023255552 := by omega
    have hb7 : 4 ≤ q2 := by omega
    have HC1 := Lib.hid hc1
    have HC2 := Lib.hid hc2
    clear e1 hcA hg hk hsp hmost hshort hright hR hxl hP1 hP2 hP3 hP4 hP5 hX hq1 hq2 hq3 hq4 hq5 hc1 hc2 hkl hkn
    go_enter Try.func14, Try.ntmps14
    go_wp2_with fail
    refine HC.out.mono ?_
    rintro e w1 ⟨rfl, h1, hb1⟩
    have c0 := HC1.out _ h1
    have c1 := h1.c1
    have HB1 := Lib.hid (HB.out.trans hb1)
    have HT1 := Lib.hid (HTK.out _ h1)
    clear h1 hb1 HB HC HTK HC1
    go_wp2_with fail
    refine HT1.out.mono ?_
    rintro e w2 ⟨rfl, h2, hb2⟩
    have HB2 := Lib.hid (HB1.out.trans hb2)
    have d0 := HC2.out _ h2
    clear h2 hb2 HB1 HT1 c0 c1 HC2
    go_wp2_with fail
    refine (HGD.out _).mono ?_
    rintro e w3 ⟨⟨a, rfl⟩, hb3⟩
    have HB3 := Lib.hid (later HB2.out hb3)
    clear hb3 HB2 HGD
    cases R with
    | true =>
      go_wp2
      go_ret3
      exact ⟨rfl, HB3.out⟩
    | false =>
      go_wp2
      go_ret3
      exact ⟨rfl, HB3.out⟩
theorem get_any (l : List UInt8) (most : Int) (w : World) (hl : l.length ≤ 2199023255552) (hm : most ≤ 9223372036854775807) :
    Calls Try.prog 14 #[.string (bs l), .int .i64 most] w fun e w' => e = .returned (getV3 (getF l most)) ∧ Below w.heap.size w w' := by
  cases hg : gs 0 0 l with
  | none => exact get_none_any l most w hl hg
  | some x => obtain ⟨n, k⟩ := x; exact get_some_any l n k most w hl hm hg
end Go.Proofs.Ytmaehbcjcifchaa.FrW
