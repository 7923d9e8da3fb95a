/-
  alluviumlaw08.works: THE WALK. (Printed by gen/trworks.py.)
  alluviumref08.SameSeries, Answers OF WHAT IS ALIKE: THE WALK.
  truth.Do IN A LOOP, ITS STATE STORED IN A BOX.
-/
import Derived.Test.YtdjgndnllaingaaJ42
import Derived.Test.YtdjgndnllaingaaJ14
import Derived.Deep.RegionHeld3
import Derived.Deep.RegionLaw
/-
  alluviumlaw08.works: THE WALK. (Printed by gen/trworks.py.)
-/
namespace Go.Proofs.Ytdjgndnllaingaa.TrW
set_option linter.unusedVariables false
open Go.RowKit Go.Shelf LabM LbM LabW FrW TrM
theorem okO_of {w : World} {o : OpH} (h : Comes w 2 encL okL o.ls.1.1 o.ls.1.2.1 o.ls.1.2.2 o.ls.2) (hf : fewB o.ls.2 = true) (hm : o.ms = ((none, 0, 0), [])) (ht : -9223372036854775808 ≤ o.t ∧ o.t ≤ 9223372036854775807) (hte : -9223372036854775808 ≤ o.te ∧ o.te ≤ 9223372036854775807) (hv : 0 ≤ o.v ∧ o.v < 18446744073709551616) : OkO w o :=
  ⟨h, hf, by rw [hm]; exact Comes.nil _ _ _ _, by rw [hm]; exact Nat.zero_le _, ht, hte, hv⟩
set_option maxRecDepth 100000 in
set_option maxHeartbeats 8000000 in
theorem works_any (w : World) :
    Calls Try.prog 9 #[] w fun e w' => e = .returned (.bool true) ∧ Below w.heap.size w w' := by
  obtain ⟨w1, hw1⟩ : ∃ w1, w.alloc (.cells #[.string ⟨#[97]⟩, .string ⟨#[120]⟩] 60 (0, 0)) = w1 := ⟨_, rfl⟩
  have hb1 : Below w.heap.size w w1 := by rw [← hw1]; exact (Below.refl _ _).alloc (Nat.le_refl _) _
  have hL : Comes w1 2 encL okL (some ⟨w.heap.size, 0, none⟩) 1 1 L0 := by rw [← hw1]; exact Comes.block (heap_alloc_new _ _) rfl (fun _ => rfl) rfl (Nat.le_refl _) (by decide) okL0
  have HL := Lib.hid hL
  have HB := Lib.hid hb1
  clear hL hb1
  have hop : ∀ v : Int, 0 ≤ v ∧ v < 18446744073709551616 → ∀ W, Below w1.heap.size w1 W → OkO W ⟨0, ((some ⟨w.heap.size, 0, none⟩, 1, 1), L0), ((none, 0, 0), []), 1, 0, v, 0⟩ := fun v hv W hW => okO_of (HL.out.later hW) fewL0 rfl (by simp) (by simp) hv
  have HOP := Lib.hid hop
  have K1 := Lib.hid (do_c (gen := 3) (StA.nil w1) (HOP.out 5 (by decide) _ (Below.refl _ _)) wk1)
  clear hop
  go_enter Try.func9, Try.ntmps9
  go_wp2_with fail
  refine K1.out.mono ?_
  rintro e w2 ⟨A1, n1, c1, AR1, nr1, cr1, AS1, ns1, cs1, rfl, h1, h2, h3, h4⟩
  obtain ⟨W2, hW2, b1, b2, b3, z2⟩ := two_boxes w2 #[.slice A1 n1 c1, .int .i64 s1.2] #[.int .i64 0, .int .i64 1, .slice AS1 ns1 cs1] 28 31
  have hl1 := Lib.hid (show nr1 = 1 from h2.len.symm)
  have hm1 := Lib.hid (show n1 = 1 from h1.len.symm)
  have H1 := Lib.hid (And.intro h1 (And.intro h2 (And.intro h3 (And.intro b2 (And.intro b3 (And.intro b1 (later h4 b1)))))))
  have B2 := Lib.hid (later h4 b1)
  clear h1 h2 h3 h4 b1 b2 b3 K1
  obtain ⟨x0, x1⟩ := row2 (W := W2) ((H1.out.2.2.2.1)) (Below.refl _ _)
  have K2 := Lib.hid (do_c (gen := 3) (H1.out.1.later H1.out.2.2.2.2.2.1) (HOP.out 5 (by decide) _ B2.out) wk2)
  go_wp2_with fail
  refine K2.out.mono ?_
  rintro e w3 ⟨A2, n2, c2, AR2, nr2, cr2, AS2, ns2, cs2, rfl, h1, h2, h3, h4⟩
  obtain ⟨W3, hW3, b1, b2, b3, z3⟩ := two_boxes w3 #[.slice A2 n2 c2, .int .i64 s1.2] #[.int .i64 0, .int .i64 0, .slice AS2 ns2 cs2] 28 31
  have hl2 := Lib.hid (show nr2 = 0 from h2.len.symm)
  have hm2 := Lib.hid (show n2 = 1 from h1.len.symm)
  have H2 := Lib.hid (And.intro h1 (And.intro h2 (And.intro h3 (And.intro b2 (And.intro b3 (And.intro b1 (later h4 b1)))))))
  have B3 := Lib.hid (later B2.out (later h4 b1))
  clear h1 h2 h3 h4 b1 b2 b3 K2
  obtain ⟨x0, x1⟩ := row2 H1.out.2.2.2.1 H2.out.2.2.2.2.2.2
  have K3 := Lib.hid (do_c (gen := 3) (H1.out.1.later (later H1.out.2.2.2.2.2.1 H2.out.2.2.2.2.2.2)) (HOP.out 6 (by decide) _ B3.out) wk3)
  go_wp2_with fail
  refine K3.out.mono ?_
  rintro e w4 ⟨A3, n3, c3, AR3, nr3, cr3, AS3, ns3, cs3, rfl, h1, h2, h3, h4⟩
  obtain ⟨W4, hW4, b1, b2, b3, z4⟩ := two_boxes w4 #[.slice A3 n3 c3, .int .i64 s1.2] #[.int .i64 5, .int .i64 0, .slice AS3 ns3 cs3] 28 31
  have hl3 := Lib.hid (show nr3 = 0 from h2.len.symm)
  have hm3 := Lib.hid (show n3 = 1 from h1.len.symm)
  have H3 := Lib.hid (And.intro h1 (And.intro h2 (And.intro h3 (And.intro b2 (And.intro b3 (And.intro b1 (later h4 b1)))))))
  have B4 := Lib.hid (later B3.out (later h4 b1))
  clear h1 h2 h3 h4 b1 b2 b3 K3
  have K4 := Lib.hid (apply_c (O := 0) (StA.nil W4) (HL.out.later B4.out) fewL0 (by simp) (by simp) wk4)
  go_wp2_with fail
  refine K4.out.mono ?_
  rintro e w5 ⟨A4, n4, c4, rfl, h1, h4⟩
  obtain ⟨W5, hW5, b1, b2, z5⟩ := one_box w5 #[.slice A4 n4 c4, .int .i64 s1.2] 28
  have H4 := Lib.hid (And.intro h1 (And.intro b2 (And.intro b1 (later h4 b1))))
  have B5 := Lib.hid (later B4.out (later h4 b1))
  clear h1 h4 b1 b2 K4
  have b25 := Lib.hid (later H2.out.2.2.2.2.2.2 (later H3.out.2.2.2.2.2.2 H4.out.2.2.2))
  obtain ⟨x0, x1⟩ := row2 H1.out.2.2.2.1 b25.out
  have K5 := Lib.hid (do_c (gen := 3) (H1.out.1.later (later H1.out.2.2.2.2.2.1 b25.out)) (okO_of (o := ⟨2, ((none, 0, 0), []), ((none, 0, 0), []), 2, 0, 0, 0⟩) (Comes.nil _ _ _ _) (by decide) rfl (by simp) (by simp) (by simp)) wk5)
  go_wp2_with fail
  refine K5.out.mono ?_
  rintro e w6 ⟨A5, n5, c5, AR5, nr5, cr5, AS5, ns5, cs5, rfl, h1, h2, h3, h4⟩
  obtain ⟨W6, hW6, b1, b2, b3, z6⟩ := two_boxes w6 #[.slice A5 n5 c5, .int .i64 s2.2] #[.int .i64 0, .int .i64 1, .slice AS5 ns5 cs5] 28 31
  have hl5 := Lib.hid (show nr5 = 1 from h2.len.symm)
  have hm5 := Lib.hid (show n5 = 0 from h1.len.symm)
  have H5 := Lib.hid (And.intro h1 (And.intro h2 (And.intro h3 (And.intro b2 (And.intro b3 (And.intro b1 (later h4 b1)))))))
  have B6 := Lib.hid (later B5.out (later h4 b1))
  clear h1 h2 h3 h4 b1 b2 b3 K5
  have b26 := Lib.hid (later b25.out H5.out.2.2.2.2.2.2)
  obtain ⟨x0, x1⟩ := row2 H1.out.2.2.2.1 b26.out
  obtain ⟨W6', hW6', k1, k2, k3⟩ := one_box W6 #[.int .i64 2, .slice none 0 0, .int .i64 2, .int .i64 0, .int .u64 0, .int .i64 2, .slice none 0 0, .int .i64 2, .int .i64 0, .int .u64 0] 64
  have hRe : ReA W6' (some ⟨W6.heap.size, 0, none⟩) 2 2 [(2, [], 2, 0, 0), (2, [], 2, 0, 0)] := by
    refine ⟨[(2, ((none, 0, 0), []), 2, 0, 0), (2, ((none, 0, 0), []), 2, 0, 0)], ⟨Comes.block k2 rfl encC_len rfl (Nat.le_refl _) (by decide) (fun _ _ => trivial), fun r hr => ?_⟩, rfl⟩
    have : r = (2, ((none, 0, 0), []), 2, 0, 0) := by simpa using hr
    subst this
    exact ⟨Comes.nil _ _ _ _, by decide, by simp, by simp⟩
  have B6' := Lib.hid (later B6.out k1)
  have b26' := Lib.hid (later b26.out k1)
  have K6 := Lib.hid (all_c (H1.out.1.later (later H1.out.2.2.2.2.2.1 b26'.out)) hRe (by decide) wk6)
  rw [z6] at K6
  have K16 := Lib.hid k1
  clear k1 k2 hRe
  go_wp2_with fail
  refine K6.out.mono ?_
  rintro e w7 ⟨A6, n6, c6, rfl, h1, h4⟩
  obtain ⟨W7, hW7, b1, b2, z7⟩ := one_box w7 #[.slice A6 n6 c6, .int .i64 s2.2] 28
  have H6 := Lib.hid (And.intro h1 (And.intro b2 (And.intro b1 (later h4 b1))))
  have B7 := Lib.hid (later B6'.out (later h4 b1))
  clear h1 h4 b1 b2 K6
  have b27 := Lib.hid (later b26'.out H6.out.2.2.2)
  have b67 := Lib.hid (later K16.out H6.out.2.2.2)
  have b57 := Lib.hid (later H5.out.2.2.2.2.2.2 b67.out)
  have b47 := Lib.hid (later H4.out.2.2.2 b57.out)
  have b37 := Lib.hid (later H3.out.2.2.2.2.2.2 b47.out)
  have HQ := Lib.hid (fun (V : World) (hV : Below W7.heap.size W7 V) =>
    And.intro (row2 H1.out.2.2.2.1 (later b27.out hV)) (And.intro (row3 H1.out.2.2.2.2.1 (later b27.out hV)) (And.intro (row3 H2.out.2.2.2.2.1 (later b37.out hV)) (And.intro (row3 H3.out.2.2.2.2.1 (later b47.out hV)) (And.intro (row2 H4.out.2.1 (later b57.out hV)) (And.intro (row2 H5.out.2.2.2.1 (later b67.out hV)) (row3 H5.out.2.2.2.2.1 (later b67.out hV))))))))
  have KSA := Lib.hid (fun (V : World) (hV : Below W7.heap.size W7 V) => (by
    have := same_c (H1.out.1.later (later H1.out.2.2.2.2.2.1 (later b27.out hV))) (H4.out.1.later (later H4.out.2.2.1 (later b57.out hV)))
    rw [decide_eq_true rfl] at this
    exact this : Calls Try.prog 13 #[.agg #[.slice A1 n1 c1, .int .i64 s1.2], .agg #[.slice A4 n4 c4, .int .i64 s1.2]] V fun e w' => e = .returned (.bool true) ∧ Below V.heap.size V w'))
  have KVA := Lib.hid (fun (V : World) (hV : Below W7.heap.size W7 V) => valid_c (H1.out.1.later (later H1.out.2.2.2.2.2.1 (later b27.out hV))))
  have KF1 := Lib.hid (fun (V : World) (hV : Below W7.heap.size W7 V) => (by
    have := find_c (f := s1.2) (H1.out.1.ser.later (later H1.out.2.2.2.2.2.1 (later b27.out hV))) (by rw [hm1.out]; decide) (by decide) (HL.out.later (later B7.out hV)) fewL0
    rw [wk7] at this
    exact this : Calls Try.prog 16 #[.agg #[.slice A1 n1 c1, .int .i64 s1.2], .slice (some ⟨w.heap.size, 0, none⟩) 1 1] V fun e w' => e = .returned (.int .i64 0) ∧ Below V.heap.size V w'))
  have KF2 := Lib.hid (fun (V : World) (hV : Below W7.heap.size W7 V) => (by
    have := find_c (f := s2.2) (H5.out.1.ser.later (later H5.out.2.2.2.2.2.1 (later b67.out hV))) (by rw [hm5.out]; decide) (by decide) (HL.out.later (later B7.out hV)) fewL0
    rw [wk8] at this
    exact this : Calls Try.prog 16 #[.agg #[.slice A5 n5 c5, .int .i64 s2.2], .slice (some ⟨w.heap.size, 0, none⟩) 1 1] V fun e w' => e = .returned (.int .i64 (-1)) ∧ Below V.heap.size V w'))
  have KT1 := Lib.hid (fun (V : World) (hV : Below W7.heap.size W7 V) => (by
    have := fits_c (f := s1.2) (gen := 1) (H1.out.1.ser.later (later H1.out.2.2.2.2.2.1 (later b27.out hV))) (by rw [hm1.out]; decide)
    rw [wk9] at this
    exact this : Calls Try.prog 20 #[.agg #[.slice A1 n1 c1, .int .i64 s1.2], .int .i64 1] V fun e w' => e = .returned (.bool true) ∧ Below V.heap.size V w'))
  have KT2 := Lib.hid (fun (V : World) (hV : Below W7.heap.size W7 V) => (by
    have := fits_c (f := s1.2) (gen := 0) (H1.out.1.ser.later (later H1.out.2.2.2.2.2.1 (later b27.out hV))) (by rw [hm1.out]; decide)
    rw [wk10] at this
    exact this : Calls Try.prog 20 #[.agg #[.slice A1 n1 c1, .int .i64 s1.2], .int .i64 0] V fun e w' => e = .returned (.bool false) ∧ Below V.heap.size V w'))
  have BB := Lib.hid (later HB.out B7.out)
  clear x0 x1 H1 H2 H3 H4 H5 H6 b25 b26 b26' b27 b37 b47 b57 b67 HOP HL HB B2 B3 B4 B5 B6 B6' B7 K16
  obtain ⟨⟨q0, q1⟩, ⟨q2, q3, q4⟩, ⟨q5, q6, q7⟩, ⟨q8, q9, q10⟩, ⟨q11, q12⟩, ⟨q13, q14⟩, ⟨q15, q16, q17⟩⟩ := HQ.out _ (Below.refl _ _)
  have e1 := hl1.out
  have e2 := hl2.out
  have e5 := hm5.out
  go_wp2_with fail
  refine (KSA.out _ (Below.refl _ _)).mono ?_
  rintro e w8 ⟨rfl, hb⟩
  have HV8 := Lib.hid (hb)
  clear hb KSA q0 q1 q2 q3 q4 q5 q6 q7 q8 q9 q10 q11 q12 q13 q14 q15 q16 q17
  obtain ⟨⟨q0, q1⟩, ⟨q2, q3, q4⟩, ⟨q5, q6, q7⟩, ⟨q8, q9, q10⟩, ⟨q11, q12⟩, ⟨q13, q14⟩, ⟨q15, q16, q17⟩⟩ := HQ.out _ HV8.out
  have hf2 : s2.2 = 2 := rfl
  go_wp2_with fail
  clear hf2 e5
  refine (KVA.out _ HV8.out).mono ?_
  rintro e w9 ⟨rfl, hb⟩
  have HV9 := Lib.hid (later HV8.out hb)
  clear hb KVA q0 q1 q2 q3 q4 q5 q6 q7 q8 q9 q10 q11 q12 q13 q14 q15 q16 q17
  obtain ⟨⟨q0, q1⟩, ⟨q2, q3, q4⟩, ⟨q5, q6, q7⟩, ⟨q8, q9, q10⟩, ⟨q11, q12⟩, ⟨q13, q14⟩, ⟨q15, q16, q17⟩⟩ := HQ.out _ HV9.out
  go_wp2_with fail
  refine (KF1.out _ HV9.out).mono ?_
  rintro e w10 ⟨rfl, hb⟩
  have HV10 := Lib.hid (later HV9.out hb)
  clear hb KF1 q0 q1 q2 q3 q4 q5 q6 q7 q8 q9 q10 q11 q12 q13 q14 q15 q16 q17
  obtain ⟨⟨q0, q1⟩, ⟨q2, q3, q4⟩, ⟨q5, q6, q7⟩, ⟨q8, q9, q10⟩, ⟨q11, q12⟩, ⟨q13, q14⟩, ⟨q15, q16, q17⟩⟩ := HQ.out _ HV10.out
  go_wp2_with fail
  refine (KF2.out _ HV10.out).mono ?_
  rintro e w11 ⟨rfl, hb⟩
  have HV11 := Lib.hid (later HV10.out hb)
  clear hb KF2 q0 q1 q2 q3 q4 q5 q6 q7 q8 q9 q10 q11 q12 q13 q14 q15 q16 q17
  obtain ⟨⟨q0, q1⟩, ⟨q2, q3, q4⟩, ⟨q5, q6, q7⟩, ⟨q8, q9, q10⟩, ⟨q11, q12⟩, ⟨q13, q14⟩, ⟨q15, q16, q17⟩⟩ := HQ.out _ HV11.out
  go_wp2_with fail
  refine (KT1.out _ HV11.out).mono ?_
  rintro e w12 ⟨rfl, hb⟩
  have HV12 := Lib.hid (later HV11.out hb)
  clear hb KT1 q0 q1 q2 q3 q4 q5 q6 q7 q8 q9 q10 q11 q12 q13 q14 q15 q16 q17
  obtain ⟨⟨q0, q1⟩, ⟨q2, q3, q4⟩, ⟨q5, q6, q7⟩, ⟨q8, q9, q10⟩, ⟨q11, q12⟩, ⟨q13, q14⟩, ⟨q15, q16, q17⟩⟩ := HQ.out _ HV12.out
  go_wp2_with fail
  refine (KT2.out _ HV12.out).mono ?_
  rintro e w13 ⟨rfl, hb⟩
  have HV13 := Lib.hid (later HV12.out hb)
  clear hb KT2 q0 q1 q2 q3 q4 q5 q6 q7 q8 q9 q10 q11 q12 q13 q14 q15 q16 q17
  obtain ⟨⟨q0, q1⟩, ⟨q2, q3, q4⟩, ⟨q5, q6, q7⟩, ⟨q8, q9, q10⟩, ⟨q11, q12⟩, ⟨q13, q14⟩, ⟨q15, q16, q17⟩⟩ := HQ.out _ HV13.out
  go_wp2_with fail
  go_ret
  exact ⟨rfl, later BB.out HV13.out⟩
end Go.Proofs.Ytdjgndnllaingaa.TrW
/-
  alluviumref08.SameSeries, Answers OF WHAT IS ALIKE: THE WALK.
-/
namespace Go.Proofs.Ytdjgndnllaingaa.TrW
set_option linter.unusedVariables false
open Go.RowKit Go.Shelf LabM LbM LabW FrW TrM
set_option maxRecDepth 20000 in
set_option maxHeartbeats 4000000 in
theorem rsers_yes {A A2 : Option Addr} {n c n2 c2 : Nat} {l : List Ser} {w : World} (h : SeA w A n c l) (h2 : SeA w A2 n2 c2 l) :
    Calls Try.prog 34 #[.slice A n c, .slice A2 n2 c2] w fun e w' => e = .returned (.bool true) ∧ Below w.heap.size w w' := by
  obtain rfl : n2 = n := by rw [← h.len, ← h2.len]
  have hle := h.le
  have hcap := h.cap
  have hle2 := h2.le
  have hcap2 := h2.cap
  obtain ⟨X, hx, ex⟩ := h
  obtain ⟨Y, hy, ey⟩ := h2
  have HX := Lib.hid hx
  have HY := Lib.hid hy
  have HE := Lib.hid (ex.trans ey.symm)
  clear hx hy ex ey
  go_enter Try.func34, Try.ntmps34
  go_wp2_with fail
  go_loopw [5] (fun v5 wr => ∃ k : Nat, k ≤ n2 ∧ v5 = .int .i64 k ∧ Below w.heap.size w wr) (fun v5 _ => n2 - (intOf v5).toNat)
  case atStart => exact ⟨0, Nat.zero_le _, rfl, Below.refl _ _⟩
  case round =>
    obtain ⟨k, hk, rfl, hb⟩ := hrel
    by_cases hlt : k < n2
    · have hk1 : k < X.length := by rw [HX.out.row.len]; exact hlt
      have hk2 : k < Y.length := by rw [HY.out.row.len]; exact hlt
      have hxy : absR X[k] = absR Y[k] := by
        have h3 : (X.map absR)[k]'(by rw [List.length_map]; exact hk1) = (Y.map absR)[k]'(by rw [List.length_map]; exact hk2) := by simp only [HE.out]
        rw [List.getElem_map, List.getElem_map] at h3
        exact h3
      obtain ⟨b, o, rfl, -, hcs⟩ := HX.out.cells hk1
      obtain ⟨b2, o2, rfl, -, hcs2⟩ := HY.out.cells hk2
      have hokx := HX.out.ok _ (List.getElem_mem hk1)
      have hoky := HY.out.ok _ (List.getElem_mem hk2)
      generalize X[k] = x at *
      generalize Y[k] = y at *
      obtain ⟨⟨⟨A1, n1, c1⟩, L⟩, ⟨⟨A3, n3, c3⟩, S⟩, T⟩ := x
      obtain ⟨⟨⟨A4, n4, c4⟩, L'⟩, ⟨⟨A5, n5, c5⟩, S'⟩, T'⟩ := y
      have hxy : (L, S, T) = (L', S', T') := hxy
      injection hxy with e1 hxy
      injection hxy with e2 e3
      subst e1 e2 e3
      unfold hdV at hcs hcs2
      have KL := Lib.hid (fun (W : World) (hW : Below w.heap.size w W) => (by
        have := rsame_any A1 n1 c1 L A4 n4 c4 L W (hokx.lab.later hW) (hoky.lab.later hW)
        rw [decide_eq_true rfl] at this
        exact this : Calls Try.prog 52 #[.slice A1 n1 c1, .slice A4 n4 c4] W fun e w' => e = .returned (.bool true) ∧ Below W.heap.size W w'))
      have KS := Lib.hid (fun (W : World) (hW : Below w.heap.size w W) => (by
        have := LabW.rsame_any A3 n3 c3 S A5 n5 c5 S W (hokx.sam.later hW) (hoky.sam.later hW)
        rw [decide_eq_true rfl] at this
        exact this : Calls Try.prog 53 #[.slice A3 n3 c3, .slice A5 n5 c5] W fun e w' => e = .returned (.bool true) ∧ Below W.heap.size W w'))
      have hbd : Below w.heap.size w wr.drew := ⟨hb.os, hb.tape, hb.output, hb.size, hb.block⟩
      have HS := Lib.hid (fun (W : World) (hW : Below w.heap.size w W) => And.intro (hcs W hW) (hcs2 W hW))
      have HB := Lib.hid hbd
      have i0 : (0 : Int) ≤ (k : Int) := by omega
      have i1 : (k : Int) < (n2 : Int) := by omega
      clear hokx hoky hcs hcs2 hb
      go_wp2_with fail
      go_region_held3 (fun W : World => (W.cell? ⟨b, o + k * 3, none⟩ = some (.slice A1 n1 c1) ∧ W.cell? ⟨b, o + k * 3 + 1, none⟩ = some (.slice A3 n3 c3) ∧ W.cell? ⟨b, o + k * 3 + 2, none⟩ = some (.int .i64 T)) ∧ W.cell? ⟨b2, o2 + k * 3, none⟩ = some (.slice A4 n4 c4) ∧ W.cell? ⟨b2, o2 + k * 3 + 1, none⟩ = some (.slice A5 n5 c5) ∧ W.cell? ⟨b2, o2 + k * 3 + 2, none⟩ = some (.int .i64 T))
        (first | exact HS.out _ HB.out | exact HS.out _ (by assumption) | exact HS.out _ (later (by assumption) (by assumption)))
        (first
        | (go_at_call 52; refine (KL.out _ HB.out).mono ?_; rintro e w2 ⟨rfl, hb2⟩; have hb2 := later HB.out hb2)
        | (go_at_call 53; refine (KS.out _ (by assumption)).mono ?_; rintro e w3 ⟨rfl, hb3⟩; have hb3 := later hb2 hb3))
      rename_i hh
      clear hh KL KS HS hb2
      have HB3 := Lib.hid hb3
      clear hb3
      go_wp2_with fail
      go_roundw
      case rel => exact ⟨k + 1, by omega, by go_num, HB3.out⟩
      case measure => simp [intOf]; omega
    · obtain rfl : k = n2 := by omega
      have HB := Lib.hid hb
      clear hb
      go_wp2_with fail
      go_ret
      exact ⟨rfl, HB.out⟩
set_option maxRecDepth 20000 in
set_option maxHeartbeats 4000000 in
theorem answers_yes {A A2 : Option Addr} {n c n2 c2 : Nat} {l : List Ser} {e N : Int} {w : World} (h : SeA w A n c l) (h2 : SeA w A2 n2 c2 l) :
    Calls Try.prog 18 #[.agg #[.int .i64 e, .int .i64 N, .slice A n c], .agg #[.int .i64 e, .int .i64 N, .slice A2 n2 c2]] w fun e w' => e = .returned (.bool true) ∧ Below w.heap.size w w' := by
  obtain ⟨w1, h1⟩ : ∃ w1, w.alloc (.cells #[.int .i64 e, .int .i64 N, .slice A n c] 31 (0, 0)) = w1 := ⟨_, rfl⟩
  have hb1 : Below w.heap.size w w1 := by rw [← h1]; exact (Below.refl _ _).alloc (Nat.le_refl _) _
  have hz1 : w1.heap.size = w.heap.size + 1 := by rw [← h1]; simp
  have hr1 : w1.heap[w.heap.size]? = some (.cells #[.int .i64 e, .int .i64 N, .slice A n c] 31 (0, 0)) := by rw [← h1]; exact heap_alloc_new w _
  obtain ⟨w3, h3⟩ : ∃ w3, w1.alloc (.cells #[.int .i64 e, .int .i64 N, .slice A2 n2 c2] 31 (0, 0)) = w3 := ⟨_, rfl⟩
  have hb3 : Below w1.heap.size w1 w3 := by rw [← h3]; exact (Below.refl _ _).alloc (Nat.le_refl _) _
  have hr3 : w3.heap[w.heap.size + 1]? = some (.cells #[.int .i64 e, .int .i64 N, .slice A2 n2 c2] 31 (0, 0)) := by rw [← h3, ← hz1]; exact heap_alloc_new w1 _
  have hr1' := (hb3.block _ (by omega)).trans hr1
  have hb := later hb1 hb3
  obtain ⟨x0, x1, x2⟩ : w3.cell? ⟨w.heap.size, 0, none⟩ = some (.int .i64 e) ∧ w3.cell? ⟨w.heap.size, 1, none⟩ = some (.int .i64 N) ∧ w3.cell? ⟨w.heap.size, 2, none⟩ = some (.slice A n c) := by
    refine ⟨?_, ?_, ?_⟩ <;> (rw [cell_of_row _ _ _ _ _ _ hr1']; rfl)
  obtain ⟨y0, y1, y2⟩ : w3.cell? ⟨w.heap.size + 1, 0, none⟩ = some (.int .i64 e) ∧ w3.cell? ⟨w.heap.size + 1, 1, none⟩ = some (.int .i64 N) ∧ w3.cell? ⟨w.heap.size + 1, 2, none⟩ = some (.slice A2 n2 c2) := by
    refine ⟨?_, ?_, ?_⟩ <;> (rw [cell_of_row _ _ _ _ _ _ hr3]; rfl)
  have K := Lib.hid (rsers_yes (h.later hb) (h2.later hb))
  have HB := Lib.hid hb
  clear h h2 hb1 hr1 hb3 hr3 hr1' hb
  go_enter Try.func18, Try.ntmps18
  go_wp2_with fail
  refine K.out.mono ?_
  rintro e w4 ⟨rfl, hb4⟩
  have HB4 := Lib.hid (later HB.out hb4)
  clear hb4
  go_wp2_with fail
  go_ret
  exact ⟨rfl, HB4.out⟩
end Go.Proofs.Ytdjgndnllaingaa.TrW
/-
  truth.Do IN A LOOP, ITS STATE STORED IN A BOX.
-/
namespace Go.Proofs.Ytdjgndnllaingaa.TrW
set_option linter.unusedVariables false
open Go.RowKit Go.Shelf LabM LbM LabW FrW TrM
theorem store2 {W : World} {g : Nat} {a b : Value} {t : TypeId} (hg : W.heap[g]? = some (.cells #[a, b] t (0, 0))) (v u : Value) :
    ∃ s1 s2, W.setCell ⟨g, 0, none⟩ v = s1 ∧ s1.setCell ⟨g, 1, none⟩ u = s2 ∧ ((∃ v, W.cell? ⟨g, 0, none⟩ = some v) ∧ W.frozen? ⟨g, 0, none⟩ = false ∧ (∃ v, s1.cell? ⟨g, 1, none⟩ = some v) ∧ s1.frozen? ⟨g, 1, none⟩ = false) ∧
      s2.heap[g]? = some (.cells #[v, u] t (0, 0)) ∧ (∀ j, j ≠ g → s2.heap[j]? = W.heap[j]?) ∧ s2.heap.size = W.heap.size ∧ s2.os = W.os ∧ s2.tape = W.tape ∧ s2.output = W.output := by
  obtain ⟨s1, h1⟩ : ∃ s1, W.setCell ⟨g, 0, none⟩ v = s1 := ⟨_, rfl⟩
  obtain ⟨s2, h2⟩ : ∃ s2, s1.setCell ⟨g, 1, none⟩ u = s2 := ⟨_, rfl⟩
  have r1 : s1.heap[g]? = some (.cells #[v, b] t (0, 0)) := by rw [← h1]; exact heap_setCell_same W _ 0 _ _ _ hg
  have r2 : s2.heap[g]? = some (.cells #[v, u] t (0, 0)) := by rw [← h2]; exact heap_setCell_same s1 _ 1 _ _ _ r1
  exact ⟨s1, s2, h1, h2, ⟨⟨_, by rw [cell_of_row _ _ _ _ _ _ hg]; rfl⟩, frozen_of_row W _ 0 _ _ hg, ⟨_, by rw [cell_of_row _ _ _ _ _ _ r1]; rfl⟩, frozen_of_row s1 _ 1 _ _ r1⟩, r2, fun j hj => by rw [← h2, ← h1]; exact (heap_setCell_other _ _ _ _ hj).trans (heap_setCell_other _ _ _ _ hj), by rw [← h2, ← h1]; simp, by rw [← h2, ← h1]; rfl, by rw [← h2, ← h1]; rfl, by rw [← h2, ← h1]; rfl⟩
/-- The state stored into its own box. -/
theorem StA.put {w W : World} {A A' : Option Addr} {n c n' c' : Nat} {f : Int} {s : St} (h : StA W A n c s) {g : Nat} (hg : W.heap[g]? = some (.cells #[.slice A' n' c', .int .i64 f] 28 (0, 0))) (hb : Below w.heap.size w W) (hgw : w.heap.size ≤ g) :
    ∃ s1 s2, W.setCell ⟨g, 0, none⟩ (.slice A n c) = s1 ∧ s1.setCell ⟨g, 1, none⟩ (.int .i64 s.2) = s2 ∧ ((∃ v, W.cell? ⟨g, 0, none⟩ = some v) ∧ W.frozen? ⟨g, 0, none⟩ = false ∧ (∃ v, s1.cell? ⟨g, 1, none⟩ = some v) ∧ s1.frozen? ⟨g, 1, none⟩ = false) ∧
      s2.heap[g]? = some (.cells #[.slice A n c, .int .i64 s.2] 28 (0, 0)) ∧ StA s2 A n c s ∧ Below w.heap.size w s2 := by
  obtain ⟨s1, s2, h1, h2, h3, h4, h5, h6, h7, h8, h9⟩ := store2 hg (.slice A n c) (.int .i64 s.2)
  exact ⟨s1, s2, h1, h2, h3, h4, h.off hg (alien_state _ _ _ _) h5 (by omega), h7.trans hb.os, h8.trans hb.tape, h9.trans hb.output, by rw [h6]; exact hb.size, fun j hj => (h5 j (by omega)).trans (hb.block j hj)⟩
theorem do_step {w W : World} {g : Nat} {A : Option Addr} {n c : Nat} {s t : St} {o : OpH} {gen : Int} (h : StA W A n c s) (ho : OkO W o) (hg : W.heap[g]? = some (.cells #[.slice A n c, .int .i64 s.2] 28 (0, 0))) (hb : Below w.heap.size w W) (hgw : w.heap.size ≤ g) (hd : (doM s (absO o) gen).1 = t) :
    Calls Try.prog 11 #[.agg #[.slice A n c, .int .i64 s.2], .agg #[.int .i64 o.kd, hdV o.ls.1, hdV o.ms.1, .int .i64 o.t, .int .i64 o.te, .int .u64 o.v, .int .i64 o.g], .int .i64 gen] W fun e w5 => ∃ (A9 : Option Addr) (n9 c9 : Nat) (AR : Option Addr) (nr cr : Nat) (e1 e2 : Int) (AS : Option Addr) (ns cs : Nat) (s1 s2 : World), e = .returned (.tuple #[.agg #[.slice A9 n9 c9, .int .i64 t.2], .agg #[.int .i64 e1, .int .i64 e2, .slice AS ns cs], .slice AR nr cr]) ∧
      w5.setCell ⟨g, 0, none⟩ (.slice A9 n9 c9) = s1 ∧ s1.setCell ⟨g, 1, none⟩ (.int .i64 t.2) = s2 ∧ ((∃ v, w5.cell? ⟨g, 0, none⟩ = some v) ∧ w5.frozen? ⟨g, 0, none⟩ = false ∧ (∃ v, s1.cell? ⟨g, 1, none⟩ = some v) ∧ s1.frozen? ⟨g, 1, none⟩ = false) ∧
      s2.heap[g]? = some (.cells #[.slice A9 n9 c9, .int .i64 t.2] 28 (0, 0)) ∧ StA s2 A9 n9 c9 t ∧ Below w.heap.size w s2 := by
  obtain ⟨⟨t', a, r⟩, hp⟩ : ∃ p, doM s (absO o) gen = p := ⟨_, rfl⟩
  rw [hp] at hd
  obtain rfl : t' = t := hd
  refine (do_c h ho hp).mono ?_
  rintro e w5 ⟨A9, n9, c9, AR, nr, cr, AS, ns, cs, rfl, h1, -, -, h4⟩
  obtain ⟨s1, s2, k1, k2, k3, k4, k5, k6⟩ := h1.put ((h4.block _ (Array.getElem?_eq_some_iff.1 hg).1).trans hg) (later hb h4) hgw
  exact ⟨A9, n9, c9, AR, nr, cr, a.1, a.2.1, AS, ns, cs, s1, s2, rfl, k1, k2, k3, k4, k5, k6⟩
end Go.Proofs.Ytdjgndnllaingaa.TrW
