/-
  alluviumlaw08.TruthGone: THE WALK. (Printed by gen/trlaw.py.)
-/
import Derived.Test.YtdjgndnllaingaaJ43
import Derived.Test.YtdjgndnllaingaaJ44
/-
  alluviumlaw08.TruthGone: THE WALK. (Printed by gen/trlaw.py.)
-/
namespace Go.Proofs.Ytdjgndnllaingaa.TrW
set_option linter.unusedVariables false
open Go.RowKit Go.Shelf LabM LbM LabW FrW TrM
set_option maxRecDepth 100000 in
set_option maxHeartbeats 8000000 in
theorem gone_walk (A : Option Addr) (n c : Nat) (os : List OpH) (A2 : Option Addr) (n2 c2 : Nat) (m : List Mat) (f t : Int) (w : World) (hl : Ops w A n c os) (hm : Comes w 3 encM okM A2 n2 c2 m) (hf0 : -9223372036854775808 ≤ f ∧ f ≤ 9223372036854775807) (ht : -9223372036854775808 ≤ t ∧ t ≤ 9223372036854775807) :
    Calls Try.prog 7 #[.slice A n c, .slice A2 n2 c2, .int .i64 f, .int .i64 t] w fun e w' => e = .returned (.bool true) ∧ Below w.heap.size w w' := by
  have HM := Lib.hid hm
  have hle2 := hm.le
  have hcap2 : c2 ≤ 9223372036854775807 := hm.cap
  have HT := Lib.hid (And.intro hf0 ht)
  clear hm hf0 ht
  have HL := Lib.hid hl
  have hcap : c ≤ 9223372036854775807 := hl.row.cap
  have hle := hl.row.le
  clear hl
  go_enter Try.func7, Try.ntmps7
  go_wp2_with fail
  refine (works_any w).mono ?_
  rintro e w1 ⟨rfl, hb1⟩
  have B1 := Lib.hid hb1
  clear hb1
  go_wp2_with fail
  refine (fewOps_any A n c os w1 (HL.out.later B1.out)).mono ?_
  rintro e w2 ⟨rfl, hb2⟩
  have B2 := Lib.hid (later B1.out hb2)
  clear hb2
  cases hf : fewOps os with
  | false =>
    go_wp2_with fail
    go_ret
    exact ⟨rfl, B2.out⟩
  | true =>
  have HF := Lib.hid ((fewOps_iff os).1 hf)
  have hn40 : n ≤ 40 := by have := HF.out.2; rw [HL.out.row.len] at this; exact this
  clear hf
  go_wp2_with fail
  refine (fewM_any A2 n2 c2 m w2 (HM.out.later B2.out)).mono ?_
  rintro e w3 ⟨rfl, hb3⟩
  have B3 := Lib.hid (hb3 ▸ B2.out)
  clear hb3
  cases hf2 : fewM m with
  | false =>
    go_wp2_with fail
    go_ret
    exact ⟨rfl, B3.out⟩
  | true =>
  have HFM := Lib.hid hf2
  clear hf2
  go_wp2_with fail
  obtain ⟨w4, hw4, hb4, hr4, hz4⟩ := one_box w3 #[.slice none 0 0, .int .i64 0] 28
  obtain ⟨g, hgg⟩ : ∃ g, w3.heap.size = g := ⟨_, rfl⟩
  have hgw : w.heap.size ≤ g := by rw [← hgg]; exact B3.out.size
  rw [hgg] at hr4
  have B4 := Lib.hid (And.intro hr4 (later B3.out hb4))
  clear hr4 hb4 hz4
  rw [hw4, hgg]
  clear hw4 hgg
  obtain ⟨l, hl⟩ : ∃ l, os.map absO = l := ⟨_, rfl⟩
  have HLL := Lib.hid hl
  have hln : l.length = n := by rw [← hl, List.length_map]; exact HL.out.row.len
  clear hl
  go_loopw [12] (fun vi wr => ∃ (k : Nat) (A' : Option Addr) (n' c' : Nat), k ≤ n ∧ vi = .int .i64 k ∧ wr.heap[g]? = some (.cells #[.slice A' n' c', .int .i64 (runM l (fun _ => 3) k).2] 28 (0, 0)) ∧ StA wr A' n' c' (runM l (fun _ => 3) k) ∧ Below w.heap.size w wr) (fun vi _ => n - (intOf vi).toNat)
  case atStart => exact ⟨0, none, 0, 0, Nat.zero_le _, rfl, B4.out.1, StA.nil _, B4.out.2⟩
  case round =>
    obtain ⟨k, A', n', c', hk, rfl, hrow, hS, hb⟩ := hrel
    by_cases hlt : k < n
    · have hkl : k < os.length := by rw [HL.out.row.len]; exact hlt
      have hkl2 : k < l.length := by omega
      obtain ⟨b, o, rfl, -, hcs⟩ := HL.out.cells hkl
      obtain ⟨d0, d1, d2, d3, d4, d5, d6⟩ := hcs _ hb
      have hok := ((HL.out.ok _ (List.getElem_mem hkl)).later hb).okO (HF.out.1 _ (List.getElem_mem hkl))
      have hst := runM_step l (fun _ => 3) k hkl2
      rw [show l[k] = absO os[k] by simp only [← HLL.out, List.getElem_map]] at hst
      generalize os[k] = x at *
      obtain ⟨kd, ⟨⟨P1, m1, q1⟩, L⟩, ⟨⟨P2, m2, q2⟩, M⟩, t0, te0, v0, g0⟩ := x
      unfold hdV at d1 d2
      have hbd : Below wr.heap.size wr wr.drew := ⟨rfl, rfl, rfl, Nat.le_refl _, fun _ _ => rfl⟩
      obtain ⟨x0, x1⟩ := row2 hrow (Below.refl _ _)
      have KD := Lib.hid (do_step (gen := 3) (hS.later hbd) (hok.later hbd) (show wr.drew.heap[g]? = _ from hrow) (later hb hbd) hgw hst.symm)
      have i0 : (0 : Int) ≤ (k : Int) := by omega
      have i1 : (k : Int) < (n : Int) := by omega
      clear hcs hok hst hbd hS hb hrow
      simp only [hdV] at KD
      go_wp2_with fail
      go_region_law
        (first
        | (go_simp
           go_at_call 11
           (with_reducible refine KD.out.mono ?_)
           rintro e w5 ⟨A9, n9, c9, AR, nr, cr, e1, e2, AS, ns, cs, s1, s2, rfl, h1, h2, ⟨⟨v1, h3⟩, h4, ⟨v2, h5⟩, h6⟩, h7, h8, h9⟩
           have HE := Lib.hid (And.intro h7 (And.intro h8 h9))
           clear h7 h8 h9))
      all_goals (
        go_wp2_with fail
        go_roundw)
      all_goals first
        | (simp [intOf]; omega)
        | exact ⟨k + 1, A9, n9, c9, by omega, by go_num, HE.out.1, HE.out.2.1, HE.out.2.2⟩
    · obtain rfl : k = n := by omega
      obtain ⟨s, hs⟩ : ∃ s, runM l (fun _ => 3) k = s := ⟨_, rfl⟩
      have HRUN := Lib.hid hs
      rw [hs] at hrow hS
      have HS := Lib.hid (And.intro hS (And.intro hrow hb))
      clear hs hrow hS hb
      have few0 : fewB [] = true := by decide
      have hm10 : m.length ≤ 10 := by
        have := HFM.out
        unfold fewM at this
        rw [Bool.and_eq_true, decide_eq_true_eq] at this
        exact this.2
      have hgone := gone (s := s) m f t 3
      obtain ⟨⟨S5, ⟨e5, N5, l5⟩, r5⟩, hd5⟩ : ∃ p, doM s ⟨3, [], m, f, t, 0, 0⟩ 3 = p := ⟨_, rfl⟩
      obtain ⟨⟨nS, ⟨er, N, AL⟩, r⟩, hd6⟩ : ∃ p, doM s ⟨1, [], m, f, t, 0, 0⟩ 3 = p := ⟨_, rfl⟩
      have hsm := ask_small HS.out.1.valid (o := ⟨3, [], m, f, t, 0, 0⟩) rfl hd5
      dsimp only at hgone
      rw [hd5, hd6] at hgone
      dsimp only at hgone
      obtain ⟨hee, hgone⟩ := hgone
      have hee : e5 = er := hee.symm
      subst hee
      have HD5 := Lib.hid hd5
      have HD6 := Lib.hid hd6
      have HG := Lib.hid (And.intro hgone hsm)
      clear hd5 hd6 hgone hsm
      by_cases her : e5 = 0
      · subst her
        obtain ⟨k1, k2, k3, k4, k5⟩ := HG.out.1 (by trivial)
        subst k1
        obtain ⟨⟨S8, ⟨e8, N8, l8⟩, r8⟩, hd8⟩ : ∃ p, doM nS ⟨3, [], m, f, t, 0, 0⟩ 3 = p := ⟨_, rfl⟩
        rw [hd8] at k4
        obtain rfl : l8 = [] := k4
        have HD7 := Lib.hid k3
        have HD8 := Lib.hid hd8
        have HLN := Lib.hid (And.intro k2 k5)
        clear k2 k3 k5 hd8
        obtain ⟨N, hN⟩ : ∃ N : Nat, (l5.map (fun x => x.2.1.length)).sum = N := ⟨_, rfl⟩
        rw [hN] at HD6
        have HN := Lib.hid hN
        clear hN
        have K5 := Lib.hid (do_c (gen := 3) (o := ⟨3, ((none, 0, 0), []), ((A2, n2, c2), m), f, t, 0, 0⟩) HS.out.1 ⟨Comes.nil _ _ _ _, few0, HM.out.later (HS.out.2.2), hm10, HT.out.1, HT.out.2, by show (0 : Int) ≤ 0 ∧ (0 : Int) < 18446744073709551616; decide⟩ HD5.out)
        obtain ⟨x0, x1⟩ := row2 HS.out.2.1 (Below.refl _ _)
        go_wp2_with fail
        refine K5.out.mono ?_
        rintro e w5 ⟨A5, n5, c5, AR5, nr5, cr5, AS5, ns5, cs5, rfl, h1, h2, h3, h4⟩
        obtain ⟨W5, hW5, b1, b2, b3, z5⟩ := two_boxes w5 #[.slice A5 n5 c5, .int .i64 S5.2] #[.int .i64 0, .int .i64 N5, .slice AS5 ns5 cs5] 28 31
        have H5 := Lib.hid (And.intro (h1.later b1) (And.intro (h2.later b1) (And.intro (h3.later b1) (And.intro b2 (And.intro b3 (later h4 b1))))))
        clear h1 h2 h3 h4 b1 b2 b3 z5 K5
        have B5 := Lib.hid H5.out.2.2.2.2.2
        have K6 := Lib.hid (do_c (gen := 3) (o := ⟨1, ((none, 0, 0), []), ((A2, n2, c2), m), f, t, 0, 0⟩) (HS.out.1.later B5.out) ⟨Comes.nil _ _ _ _, few0, HM.out.later (later HS.out.2.2 B5.out), hm10, HT.out.1, HT.out.2, by show (0 : Int) ≤ 0 ∧ (0 : Int) < 18446744073709551616; decide⟩ HD6.out)
        clear x0 x1
        obtain ⟨x0, x1⟩ := row2 HS.out.2.1 B5.out
        go_wp2_with fail
        refine K6.out.mono ?_
        rintro e w6 ⟨A6, n6, c6, AR6, nr6, cr6, AS6, ns6, cs6, rfl, h1, h2, h3, h4⟩
        obtain ⟨W6, hW6, b1, b2, b3, z6⟩ := two_boxes w6 #[.slice A6 n6 c6, .int .i64 nS.2] #[.int .i64 0, .int .i64 (N : Int), .slice AS6 ns6 cs6] 28 31
        have H6 := Lib.hid (And.intro (h1.later b1) (And.intro (h2.later b1) (And.intro (h3.later b1) (And.intro b2 (And.intro b3 (later h4 b1))))))
        clear h1 h2 h3 h4 b1 b2 b3 z6 K6
        have B6 := Lib.hid (later B5.out H6.out.2.2.2.2.2)
        clear x0 x1
        obtain ⟨x0, x1⟩ := row2 H6.out.2.2.2.1 (Below.refl _ _)
        obtain ⟨y0, y1, y2⟩ := row3 H6.out.2.2.2.2.1 (Below.refl _ _)
        obtain ⟨z0, z1, z2⟩ := row3 H5.out.2.2.2.2.1 H6.out.2.2.2.2.2
        have BW := Lib.hid (later HS.out.2.2 B6.out)
        have K7 := Lib.hid (do_c (gen := 3) (o := ⟨1, ((none, 0, 0), []), ((A2, n2, c2), m), f, t, 0, 0⟩) H6.out.1 ⟨Comes.nil _ _ _ _, few0, HM.out.later (BW.out), hm10, HT.out.1, HT.out.2, by show (0 : Int) ≤ 0 ∧ (0 : Int) < 18446744073709551616; decide⟩ HD7.out)
        have K8 := Lib.hid (fun (V : World) (hV : Below W6.heap.size W6 V) => do_c (gen := 3) (o := ⟨3, ((none, 0, 0), []), ((A2, n2, c2), m), f, t, 0, 0⟩) (H6.out.1.later hV) ⟨Comes.nil _ _ _ _, few0, HM.out.later (later BW.out hV), hm10, HT.out.1, HT.out.2, by show (0 : Int) ≤ 0 ∧ (0 : Int) < 18446744073709551616; decide⟩ HD8.out)
        go_wp2_with fail
        refine K7.out.mono ?_
        rintro e w7 ⟨A7, n7, c7, AR7, nr7, cr7, AS7, ns7, cs7, rfl, h1, h2, h3, h4⟩
        obtain ⟨W7, hW7, b1, b2, b3, z7⟩ := two_boxes w7 #[.slice A7 n7 c7, .int .i64 nS.2] #[.int .i64 0, .int .i64 0, .slice AS7 ns7 cs7] 28 31
        have H7 := Lib.hid (And.intro (h1.later b1) (And.intro (h2.later b1) (And.intro (h3.later b1) (And.intro b2 (And.intro b3 (later h4 b1))))))
        clear h1 h2 h3 h4 b1 b2 b3 z7 K7
        have B7 := Lib.hid H7.out.2.2.2.2.2
        clear x0 x1 y0 y1 y2 z0 z1 z2
        obtain ⟨x0, x1⟩ := row2 H6.out.2.2.2.1 B7.out
        go_wp2_with fail
        refine (K8.out _ B7.out).mono ?_
        rintro e w8 ⟨A8, n8, c8, AR8, nr8, cr8, AS8, ns8, cs8, rfl, h1, h2, h3, h4⟩
        obtain ⟨W8, hW8, b1, b2, b3, z8⟩ := two_boxes w8 #[.slice A8 n8 c8, .int .i64 S8.2] #[.int .i64 e8, .int .i64 N8, .slice AS8 ns8 cs8] 28 31
        have H8 := Lib.hid (And.intro (h1.later b1) (And.intro (h2.later b1) (And.intro (h3.later b1) (And.intro b2 (And.intro b3 (later h4 b1))))))
        clear h1 h2 h3 h4 b1 b2 b3 z8 K8
        have B8 := Lib.hid (later B7.out H8.out.2.2.2.2.2)
        have B58 := Lib.hid (later H6.out.2.2.2.2.2 B8.out)
        have hl5 : ns5 = l5.length := H5.out.2.2.1.len.symm
        have hs5 : ns5 ≤ 20 := by rw [hl5]; exact HG.out.2.1
        have hcap5 : cs5 ≤ 9223372036854775807 := H5.out.2.2.1.cap
        have hle5 := H5.out.2.2.1.le
        obtain ⟨SS, hSS, hSe⟩ := H5.out.2.2.1.later B58.out
        have HSS := Lib.hid (And.intro hSS hSe)
        clear hSS hSe x0 x1
        have HY := Lib.hid (fun (V : World) (hV : Below W8.heap.size W8 V) => row3 H5.out.2.2.2.2.1 (later B58.out hV))
        have HZ := Lib.hid (fun (V : World) (hV : Below W8.heap.size W8 V) => And.intro (row2 HS.out.2.1 (later B6.out (later B8.out hV))) (And.intro (row3 H6.out.2.2.2.2.1 (later B8.out hV)) (And.intro (row2 H6.out.2.2.2.1 (later B8.out hV)) (And.intro (row3 H7.out.2.2.2.2.1 (later H8.out.2.2.2.2.2 hV)) (row3 H8.out.2.2.2.2.1 hV)))))
        have hq1 : nr6 = ns5 := by rw [← H6.out.2.1.len, hl5]; exact HLN.out.1
        have hq2 : n6 = n' := by rw [← H6.out.1.len, ← HS.out.1.len]; exact HLN.out.2
        have hq3 : nr7 = 0 := H7.out.2.1.len.symm
        have hq4 : ns8 = 0 := H8.out.2.2.1.len.symm
        have BE := Lib.hid (later BW.out B8.out)
        have HQ := Lib.hid (And.intro hq1 (And.intro hq2 (And.intro hq3 hq4)))
        clear hq1 hq2 hq3 hq4
        obtain ⟨y0, y1, y2⟩ := HY.out _ (Below.refl _ _)
        go_wp2_with fail
        clear y0 y1 y2
        go_loopw [25, 26] (fun v25 v26 wr => ∃ i : Nat, i ≤ ns5 ∧ v26 = .int .i64 i ∧ v25 = .int .i64 ((lens l5 i : Nat) : Int) ∧ Below W8.heap.size W8 wr) (fun _ v26 _ => ns5 - (intOf v26).toNat)
        case atStart => exact ⟨0, Nat.zero_le _, rfl, rfl, Below.refl _ _⟩
        case round =>
          obtain ⟨i, hi, rfl, rfl, hb⟩ := hrel
          obtain ⟨y0, y1, y2⟩ := HY.out _ hb
          have hlb : lens l5 i ≤ 200 * i := lens_le l5 HG.out.2.2 i
          by_cases hlt : i < ns5
          · have hi1 : i < SS.length := by rw [HSS.out.1.row.len]; exact hlt
            have hi2 : i < l5.length := by omega
            have hst := lens_step l5 i hi2
            have hxl : l5[i].2.1.length = SS[i].2.1.2.length := by simp only [← HSS.out.2, List.getElem_map]; rfl
            have hx2 : SS[i].2.1.2.length = SS[i].2.1.1.2.1 := (HSS.out.1.ok _ (List.getElem_mem hi1)).sam.len
            have h200 := HG.out.2.2 _ (List.getElem_mem hi2)
            rw [hxl, hx2] at hst
            rw [hxl, hx2] at h200
            obtain ⟨b, o, hAS, -, hcs⟩ := HSS.out.1.cells hi1
            subst hAS
            obtain ⟨-, d1, -⟩ := hcs _ hb
            generalize SS[i] = y at *
            obtain ⟨⟨⟨A0, n0, c0⟩, L⟩, ⟨⟨A1, m1, q1⟩, S⟩, T⟩ := y
            unfold hdV at d1
            dsimp only at d1 hst h200
            have HB := Lib.hid hb
            have HST := Lib.hid hst
            obtain ⟨z, hz⟩ : ∃ z, lens l5 i = z := ⟨_, rfl⟩
            rw [hz] at hlb HST
            rw [hz]
            have i0 : (0 : Int) ≤ (i : Int) := by omega
            have i1 : (i : Int) < (ns5 : Int) := by omega
            clear hb hst hz hcs hxl hx2
            go_wp2_with fail
            go_roundw
            case rel => exact ⟨i + 1, by omega, by go_num, by rw [HST.out]; go_num, HB.out⟩
            case measure => simp [intOf]; omega
          · obtain rfl : i = ns5 := by omega
            have hall : lens l5 i = N := by rw [lens_all l5 i (by omega)]; exact HN.out
            rw [hall]
            obtain ⟨⟨x0, x1⟩, ⟨z0, z1, z2⟩, ⟨z3, z4⟩, ⟨u0, u1, u2⟩, ⟨u3, u4, u5⟩⟩ := HZ.out _ hb
            obtain ⟨q1, q2, q3, q4⟩ := HQ.out
            have HB := Lib.hid (later BE.out hb)
            clear hb hall hlb
            go_wp2_with fail
            go_ret
            exact ⟨rfl, HB.out⟩
      · skip
        have K5 := Lib.hid (do_c (gen := 3) (o := ⟨3, ((none, 0, 0), []), ((A2, n2, c2), m), f, t, 0, 0⟩) HS.out.1 ⟨Comes.nil _ _ _ _, few0, HM.out.later (HS.out.2.2), hm10, HT.out.1, HT.out.2, by show (0 : Int) ≤ 0 ∧ (0 : Int) < 18446744073709551616; decide⟩ HD5.out)
        obtain ⟨x0, x1⟩ := row2 HS.out.2.1 (Below.refl _ _)
        go_wp2_with fail
        refine K5.out.mono ?_
        rintro e w5 ⟨A5, n5, c5, AR5, nr5, cr5, AS5, ns5, cs5, rfl, h1, h2, h3, h4⟩
        obtain ⟨W5, hW5, b1, b2, b3, z5⟩ := two_boxes w5 #[.slice A5 n5 c5, .int .i64 S5.2] #[.int .i64 e5, .int .i64 N5, .slice AS5 ns5 cs5] 28 31
        have H5 := Lib.hid (And.intro (h1.later b1) (And.intro (h2.later b1) (And.intro (h3.later b1) (And.intro b2 (And.intro b3 (later h4 b1))))))
        clear h1 h2 h3 h4 b1 b2 b3 z5 K5
        have B5 := Lib.hid H5.out.2.2.2.2.2
        have K6 := Lib.hid (do_c (gen := 3) (o := ⟨1, ((none, 0, 0), []), ((A2, n2, c2), m), f, t, 0, 0⟩) (HS.out.1.later B5.out) ⟨Comes.nil _ _ _ _, few0, HM.out.later (later HS.out.2.2 B5.out), hm10, HT.out.1, HT.out.2, by show (0 : Int) ≤ 0 ∧ (0 : Int) < 18446744073709551616; decide⟩ HD6.out)
        clear x0 x1
        obtain ⟨x0, x1⟩ := row2 HS.out.2.1 B5.out
        go_wp2_with fail
        refine K6.out.mono ?_
        rintro e w6 ⟨A6, n6, c6, AR6, nr6, cr6, AS6, ns6, cs6, rfl, h1, h2, h3, h4⟩
        obtain ⟨W6, hW6, b1, b2, b3, z6⟩ := two_boxes w6 #[.slice A6 n6 c6, .int .i64 nS.2] #[.int .i64 e5, .int .i64 N, .slice AS6 ns6 cs6] 28 31
        have H6 := Lib.hid (And.intro (h1.later b1) (And.intro (h2.later b1) (And.intro (h3.later b1) (And.intro b2 (And.intro b3 (later h4 b1))))))
        clear h1 h2 h3 h4 b1 b2 b3 z6 K6
        have B6 := Lib.hid (later B5.out H6.out.2.2.2.2.2)
        clear x0 x1
        obtain ⟨x0, x1⟩ := row2 H6.out.2.2.2.1 (Below.refl _ _)
        obtain ⟨y0, y1, y2⟩ := row3 H6.out.2.2.2.2.1 (Below.refl _ _)
        obtain ⟨z0, z1, z2⟩ := row3 H5.out.2.2.2.2.1 H6.out.2.2.2.2.2
        have BW := Lib.hid (later HS.out.2.2 B6.out)
        go_wp2_with fail
        go_ret
        exact ⟨rfl, BW.out⟩
end Go.Proofs.Ytdjgndnllaingaa.TrW
