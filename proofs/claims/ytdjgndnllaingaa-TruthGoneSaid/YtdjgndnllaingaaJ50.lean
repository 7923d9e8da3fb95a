/-
  alluviumlaw08.TruthAsks: THE WALK. (Printed by gen/trlaw.py.)
-/
import Derived.Test.YtdjgndnllaingaaJ43
import Derived.Test.YtdjgndnllaingaaJ49
import Derived.Deep.RegionHeld3
import Derived.BigRegion
/-
  alluviumlaw08.TruthAsks: THE WALK. (Printed by gen/trlaw.py.)
-/
namespace Go.Proofs.Ytdjgndnllaingaa.TrW
set_option linter.unusedVariables false
set_option linter.unusedSimpArgs false
open Go.RowKit Go.Shelf LabM LbM LabW FrW TrM
set_option maxRecDepth 100000 in
set_option maxHeartbeats 8000000 in
theorem asks_walk (A : Option Addr) (n c : Nat) (os : List OpH) (A2 : Option Addr) (n2 c2 : Nat) (m : List Mat) (w : World) (hl : Ops w A n c os) (hm : Comes w 3 encM okM A2 n2 c2 m) :
    Calls Try.prog 4 #[.slice A n c, .slice A2 n2 c2] w fun e w' => e = .returned (.bool true) ∧ Below w.heap.size w w' := by
  have HM := Lib.hid hm
  have hle2 := hm.le
  have hcap2 : c2 ≤ 9223372036854775807 := hm.cap
  clear hm
  have HL := Lib.hid hl
  have hcap : c ≤ 9223372036854775807 := hl.row.cap
  have hle := hl.row.le
  clear hl
  go_enter Try.func4, Try.ntmps4
  go_wp2_with fail
  refine (works_any w).mono ?_
  rintro e w1 ⟨rfl, hb1⟩
  have B1 := Lib.hid hb1
  clear hb1
  go_wp2_with fail
  refine (fewOps_any A n c os w1 (HL.out.later B1.out)).mono ?_
  rintro e w2 ⟨rfl, hb2⟩
  have B2 := Lib.hid (later B1.out hb2)
  clear hb2
  cases hf : fewOps os with
  | false =>
    go_wp2_with fail
    go_ret
    exact ⟨rfl, B2.out⟩
  | true =>
  have HF := Lib.hid ((fewOps_iff os).1 hf)
  have hn40 : n ≤ 40 := by have := HF.out.2; rw [HL.out.row.len] at this; exact this
  clear hf
  go_wp2_with fail
  refine (fewM_any A2 n2 c2 m w2 (HM.out.later B2.out)).mono ?_
  rintro e w3 ⟨rfl, hb3⟩
  have B3 := Lib.hid (hb3 ▸ B2.out)
  clear hb3
  cases hf2 : fewM m with
  | false =>
    go_wp2_with fail
    go_ret
    exact ⟨rfl, B3.out⟩
  | true =>
  have HFM := Lib.hid hf2
  clear hf2
  go_wp2_with fail
  obtain ⟨w4, hw4, hb4, hr4, hz4⟩ := one_box w3 #[.slice none 0 0, .int .i64 0] 28
  obtain ⟨g, hgg⟩ : ∃ g, w3.heap.size = g := ⟨_, rfl⟩
  have hgw : w.heap.size ≤ g := by rw [← hgg]; exact B3.out.size
  rw [hgg] at hr4
  have B4 := Lib.hid (And.intro hr4 (later B3.out hb4))
  clear hr4 hb4 hz4
  rw [hw4, hgg]
  clear hw4 hgg
  obtain ⟨l, hl⟩ : ∃ l, os.map absO = l := ⟨_, rfl⟩
  have HLL := Lib.hid hl
  have hln : l.length = n := by rw [← hl, List.length_map]; exact HL.out.row.len
  clear hl
  go_loopw [8] (fun vi wr => ∃ (k : Nat) (A' : Option Addr) (n' c' : Nat), k ≤ n ∧ vi = .int .i64 k ∧ wr.heap[g]? = some (.cells #[.slice A' n' c', .int .i64 (runM l (fun _ => 3) k).2] 28 (0, 0)) ∧ StA wr A' n' c' (runM l (fun _ => 3) k) ∧ Below w.heap.size w wr) (fun vi _ => n - (intOf vi).toNat)
  case atStart => exact ⟨0, none, 0, 0, Nat.zero_le _, rfl, B4.out.1, StA.nil _, B4.out.2⟩
  case round =>
    obtain ⟨k, A', n', c', hk, rfl, hrow, hS, hb⟩ := hrel
    by_cases hlt : k < n
    · have hkl : k < os.length := by rw [HL.out.row.len]; exact hlt
      have hkl2 : k < l.length := by omega
      obtain ⟨b, o, rfl, -, hcs⟩ := HL.out.cells hkl
      obtain ⟨d0, d1, d2, d3, d4, d5, d6⟩ := hcs _ hb
      have hok := ((HL.out.ok _ (List.getElem_mem hkl)).later hb).okO (HF.out.1 _ (List.getElem_mem hkl))
      have hst := runM_step l (fun _ => 3) k hkl2
      rw [show l[k] = absO os[k] by simp only [← HLL.out, List.getElem_map]] at hst
      generalize os[k] = x at *
      obtain ⟨kd, ⟨⟨P1, m1, q1⟩, L⟩, ⟨⟨P2, m2, q2⟩, M⟩, t0, te0, v0, g0⟩ := x
      unfold hdV at d1 d2
      have hbd : Below wr.heap.size wr wr.drew := ⟨rfl, rfl, rfl, Nat.le_refl _, fun _ _ => rfl⟩
      obtain ⟨x0, x1⟩ := row2 hrow (Below.refl _ _)
      have KD := Lib.hid (do_step (gen := 3) (hS.later hbd) (hok.later hbd) (show wr.drew.heap[g]? = _ from hrow) (later hb hbd) hgw hst.symm)
      have i0 : (0 : Int) ≤ (k : Int) := by omega
      have i1 : (k : Int) < (n : Int) := by omega
      clear hcs hok hst hbd hS hb hrow
      simp only [hdV] at KD
      go_wp2_with fail
      go_region_law
        (first
        | (go_simp
           go_at_call 11
           (with_reducible refine KD.out.mono ?_)
           rintro e w5 ⟨A9, n9, c9, AR, nr, cr, e1, e2, AS, ns, cs, s1, s2, rfl, h1, h2, ⟨⟨v1, h3⟩, h4, ⟨v2, h5⟩, h6⟩, h7, h8, h9⟩
           have HE := Lib.hid (And.intro h7 (And.intro h8 h9))
           clear h7 h8 h9))
      all_goals (
        go_wp2_with fail
        go_roundw)
      all_goals first
        | (simp [intOf]; omega)
        | exact ⟨k + 1, A9, n9, c9, by omega, by go_num, HE.out.1, HE.out.2.1, HE.out.2.2⟩
    · obtain rfl : k = n := by omega
      obtain ⟨s, hs⟩ : ∃ s, runM l (fun _ => 3) k = s := ⟨_, rfl⟩
      have HRUN := Lib.hid hs
      rw [hs] at hrow hS
      have HS := Lib.hid (And.intro hS (And.intro hrow hb))
      clear hs hrow hS hb
      have few0 : fewB [] = true := by decide
      have hm10 : m.length ≤ 10 := by
        have := HFM.out
        unfold fewM at this
        rw [Bool.and_eq_true, decide_eq_true_eq] at this
        exact this.2
      cases hcm : checkMB m with
      | false =>
        have K5 := Lib.hid (do_c (gen := 3) (o := ⟨3, ((none, 0, 0), []), ((none, 0, 0), []), 0, maxT, 0, 0⟩) HS.out.1 ⟨Comes.nil _ _ _ _, few0, Comes.nil _ _ _ _, Nat.zero_le _, by show -9223372036854775808 ≤ (0 : Int) ∧ (0 : Int) ≤ 9223372036854775807; decide, by show -9223372036854775808 ≤ maxT ∧ maxT ≤ 9223372036854775807; decide, by show (0 : Int) ≤ 0 ∧ (0 : Int) < 18446744073709551616; decide⟩ (asks_all HS.out.1.valid 3))
        have K6 := Lib.hid (fun (V : World) (hV : Below wr.heap.size wr V) => do_c (gen := 3) (o := ⟨3, ((none, 0, 0), []), ((A2, n2, c2), m), 0, maxT, 0, 0⟩) (HS.out.1.later hV) ⟨Comes.nil _ _ _ _, few0, HM.out.later (later HS.out.2.2 hV), hm10, by show -9223372036854775808 ≤ (0 : Int) ∧ (0 : Int) ≤ 9223372036854775807; decide, by show -9223372036854775808 ≤ maxT ∧ maxT ≤ 9223372036854775807; decide, by show (0 : Int) ≤ 0 ∧ (0 : Int) < 18446744073709551616; decide⟩ (asks_none 3 hcm))
        have hmx : maxT = 1125899906842624 := rfl
        rw [hmx] at K5 K6
        clear hmx
        obtain ⟨x0, x1⟩ := row2 HS.out.2.1 (Below.refl _ _)
        go_wp2_with fail
        refine K5.out.mono ?_
        rintro e w5 ⟨A5, n5, c5, AR5, nr5, cr5, AS5, ns5, cs5, rfl, h1, h2, h3, h4⟩
        obtain ⟨W5, hW5, b1, b2, b3, z5⟩ := two_boxes w5 #[.slice A5 n5 c5, .int .i64 s.2] #[.int .i64 0, .int .i64 0, .slice AS5 ns5 cs5] 28 31
        have H5 := Lib.hid (And.intro (h1.later b1) (And.intro (h2.later b1) (And.intro (h3.later b1) (And.intro b2 (And.intro b3 (later h4 b1))))))
        clear h1 h2 h3 h4 b1 b2 b3 z5 K5
        have B5 := Lib.hid H5.out.2.2.2.2.2
        clear x0 x1
        obtain ⟨x0, x1⟩ := row2 HS.out.2.1 B5.out
        go_wp2_with fail
        refine (K6.out _ B5.out).mono ?_
        rintro e w6 ⟨A6, n6, c6, AR6, nr6, cr6, AS6, ns6, cs6, rfl, h1, h2, h3, h4⟩
        obtain ⟨W6, hW6, b1, b2, b3, z6⟩ := two_boxes w6 #[.slice A6 n6 c6, .int .i64 s.2] #[.int .i64 1, .int .i64 0, .slice AS6 ns6 cs6] 28 31
        have H6 := Lib.hid (And.intro (h1.later b1) (And.intro (h2.later b1) (And.intro (h3.later b1) (And.intro b2 (And.intro b3 (later h4 b1))))))
        clear h1 h2 h3 h4 b1 b2 b3 z6 K6
        have B6 := Lib.hid (later B5.out H6.out.2.2.2.2.2)
        clear x0 x1
        obtain ⟨x0, x1⟩ := row2 HS.out.2.1 B6.out
        obtain ⟨y0, y1, y2⟩ := row3 H6.out.2.2.2.2.1 (Below.refl _ _)
        obtain ⟨z0, z1, z2⟩ := row3 H5.out.2.2.2.2.1 H6.out.2.2.2.2.2
        have BW := Lib.hid (later HS.out.2.2 B6.out)
        obtain rfl : ns6 = 0 := H6.out.2.2.1.len.symm
        go_wp2_with fail
        go_ret
        exact ⟨rfl, BW.out⟩
      | true =>
        have K5 := Lib.hid (do_c (gen := 3) (o := ⟨3, ((none, 0, 0), []), ((none, 0, 0), []), 0, maxT, 0, 0⟩) HS.out.1 ⟨Comes.nil _ _ _ _, few0, Comes.nil _ _ _ _, Nat.zero_le _, by show -9223372036854775808 ≤ (0 : Int) ∧ (0 : Int) ≤ 9223372036854775807; decide, by show -9223372036854775808 ≤ maxT ∧ maxT ≤ 9223372036854775807; decide, by show (0 : Int) ≤ 0 ∧ (0 : Int) < 18446744073709551616; decide⟩ (asks_all HS.out.1.valid 3))
        have K6 := Lib.hid (fun (V : World) (hV : Below wr.heap.size wr V) => do_c (gen := 3) (o := ⟨3, ((none, 0, 0), []), ((A2, n2, c2), m), 0, maxT, 0, 0⟩) (HS.out.1.later hV) ⟨Comes.nil _ _ _ _, few0, HM.out.later (later HS.out.2.2 hV), hm10, by show -9223372036854775808 ≤ (0 : Int) ∧ (0 : Int) ≤ 9223372036854775807; decide, by show -9223372036854775808 ≤ maxT ∧ maxT ≤ 9223372036854775807; decide, by show (0 : Int) ≤ 0 ∧ (0 : Int) < 18446744073709551616; decide⟩ (asks_some HS.out.1.valid 3 hcm))
        have hmx : maxT = 1125899906842624 := rfl
        rw [hmx] at K5 K6
        clear hmx
        obtain ⟨x0, x1⟩ := row2 HS.out.2.1 (Below.refl _ _)
        go_wp2_with fail
        refine K5.out.mono ?_
        rintro e w5 ⟨A5, n5, c5, AR5, nr5, cr5, AS5, ns5, cs5, rfl, h1, h2, h3, h4⟩
        obtain ⟨W5, hW5, b1, b2, b3, z5⟩ := two_boxes w5 #[.slice A5 n5 c5, .int .i64 s.2] #[.int .i64 0, .int .i64 0, .slice AS5 ns5 cs5] 28 31
        have H5 := Lib.hid (And.intro (h1.later b1) (And.intro (h2.later b1) (And.intro (h3.later b1) (And.intro b2 (And.intro b3 (later h4 b1))))))
        clear h1 h2 h3 h4 b1 b2 b3 z5 K5
        have B5 := Lib.hid H5.out.2.2.2.2.2
        clear x0 x1
        obtain ⟨x0, x1⟩ := row2 HS.out.2.1 B5.out
        go_wp2_with fail
        refine (K6.out _ B5.out).mono ?_
        rintro e w6 ⟨A6, n6, c6, AR6, nr6, cr6, AS6, ns6, cs6, rfl, h1, h2, h3, h4⟩
        obtain ⟨W6, hW6, b1, b2, b3, z6⟩ := two_boxes w6 #[.slice A6 n6 c6, .int .i64 s.2] #[.int .i64 0, .int .i64 0, .slice AS6 ns6 cs6] 28 31
        have H6 := Lib.hid (And.intro (h1.later b1) (And.intro (h2.later b1) (And.intro (h3.later b1) (And.intro b2 (And.intro b3 (later h4 b1))))))
        clear h1 h2 h3 h4 b1 b2 b3 z6 K6
        have B6 := Lib.hid (later B5.out H6.out.2.2.2.2.2)
        clear x0 x1
        obtain ⟨x0, x1⟩ := row2 HS.out.2.1 B6.out
        obtain ⟨y0, y1, y2⟩ := row3 H6.out.2.2.2.2.1 (Below.refl _ _)
        obtain ⟨z0, z1, z2⟩ := row3 H5.out.2.2.2.2.1 H6.out.2.2.2.2.2
        have BW := Lib.hid (later HS.out.2.2 B6.out)
        have hvs := HS.out.1.valid
        have HV := Lib.hid hvs
        have hn20 : n' ≤ 20 := by rw [← HS.out.1.len]; exact hvs.len
        have hl5 : (allA s).length = ns5 := H5.out.2.2.1.len
        have hs5 : ns5 ≤ 20 := by rw [← hl5]; exact allA_le hvs
        have hl6 : (someA s m).length = ns6 := H6.out.2.2.1.len
        have hs6 : ns6 ≤ 20 := by rw [← hl6]; unfold someA; exact Nat.le_trans (List.length_filter_le ..) (allA_le hvs)
        have hcap0 : c' ≤ 9223372036854775807 := HS.out.1.cap
        have hle0 := HS.out.1.le
        have hcap5 : cs5 ≤ 9223372036854775807 := H5.out.2.2.1.cap
        have hle5 := H5.out.2.2.1.le
        have hcap6 : cs6 ≤ 9223372036854775807 := H6.out.2.2.1.cap
        have hle6 := H6.out.2.2.1.le
        obtain ⟨X0, hX0, hE0⟩ := HS.out.1.ser.later B6.out
        obtain ⟨X5, hX5, hE5⟩ := H5.out.2.2.1.later H6.out.2.2.2.2.2
        obtain ⟨X6, hX6, hE6⟩ := H6.out.2.2.1
        have HX := Lib.hid (And.intro (And.intro hX0 hE0) (And.intro (And.intro hX5 hE5) (And.intro hX6 hE6)))
        have HC := Lib.hid (fun (V : World) (hV : Below W6.heap.size W6 V) => And.intro (row2 HS.out.2.1 (later B6.out hV)) (And.intro (row3 H5.out.2.2.2.2.1 (later H6.out.2.2.2.2.2 hV)) (row3 H6.out.2.2.2.2.1 hV)))
        have HLN := Lib.hid (And.intro hl5 hl6)
        clear hX0 hE0 hX5 hE5 hX6 hE6 hvs hl5 hl6
        go_wp2_with fail
        clear hW5 hW6 x0 x1 y0 y1 y2 z0 z1 z2 B5
        go_loopw [15, 16] (fun v15 v16 wr => ∃ i : Nat, i ≤ n' ∧ v16 = .int .i64 i ∧ v15 = .int .i64 ((((s.1.take i).filter neB).length : Nat) : Int) ∧ Below W6.heap.size W6 wr) (fun _ v16 _ => n' - (intOf v16).toNat)
        case atStart => exact ⟨0, Nat.zero_le _, rfl, rfl, Below.refl _ _⟩
        case round =>
          obtain ⟨i, hi, rfl, rfl, hb⟩ := hrel
          obtain ⟨⟨x0, x1⟩, -⟩ := HC.out _ hb
          have hlb : ((s.1.take i).filter neB).length ≤ 20 := Nat.le_trans (List.length_filter_le ..) (by rw [List.length_take, HS.out.1.len]; omega)
          by_cases hlt : i < n'
          · have hi1 : i < X0.length := by rw [HX.out.1.1.row.len]; exact hlt
            have hi2 : i < s.1.length := by rw [HS.out.1.len]; exact hlt
            have hst := count_step s.1 i hi2
            have hxl : s.1[i].2.1.length = X0[i].2.1.2.length := by simp only [← HX.out.1.2, List.getElem_map]; rfl
            have hx2 : X0[i].2.1.2.length = X0[i].2.1.1.2.1 := (HX.out.1.1.ok _ (List.getElem_mem hi1)).sam.len
            rw [hxl, hx2] at hst
            obtain ⟨b, o, hAS, -, hcs⟩ := HX.out.1.1.cells hi1
            subst hAS
            obtain ⟨-, d1, -⟩ := hcs _ hb
            generalize X0[i] = y at *
            obtain ⟨⟨⟨A0, n0, c0⟩, L⟩, ⟨⟨A1, m1, q1⟩, S⟩, T⟩ := y
            unfold hdV at d1
            (try dsimp only at d1 hst)
            obtain ⟨z, hz⟩ : ∃ z, ((s.1.take i).filter neB).length = z := ⟨_, rfl⟩
            rw [hz] at hlb hst
            rw [hz]
            have HB := Lib.hid hb
            have HST := Lib.hid hst
            have i0 : (0 : Int) ≤ (i : Int) := by omega
            have i1 : (i : Int) < (n' : Int) := by omega
            clear hb hst hz hcs hxl hx2
            by_cases hm0 : 0 < m1
            · rw [if_pos hm0] at HST
              go_wp2_with fail
              go_roundw
              case rel => exact ⟨i + 1, by omega, by go_num, by rw [HST.out]; go_num, HB.out⟩
              case measure => simp [intOf]; omega
            · rw [if_neg hm0] at HST
              obtain rfl : m1 = 0 := by omega
              go_wp2_with fail
              go_roundw
              case rel => exact ⟨i + 1, by omega, by go_num, by rw [HST.out]; go_num, HB.out⟩
              case measure => simp [intOf]; omega
          · obtain rfl : n' = i := by omega
            have hall : ((s.1.take n').filter neB).length = ns5 := by rw [List.take_of_length_le (by rw [HS.out.1.len]; omega), ← allA_len]; exact HLN.out.1
            rw [hall]
            obtain ⟨V0, hV⟩ : ∃ V0, V0 = wr := ⟨_, rfl⟩
            subst hV
            have HB0 := Lib.hid hb
            obtain ⟨⟨u0, u1⟩, ⟨y0, y1, y2⟩, -⟩ := HC.out _ hb
            clear hb hall hlb
            go_wp2_with fail
            clear x0 x1 u0 u1 y0 y1 y2
            go_loopw [17, 18] (fun v17 v18 wr => ∃ j : Nat, j ≤ ns5 ∧ v18 = .int .i64 j ∧ v17 = .int .i64 ((kA s m j : Nat) : Int) ∧ Below W6.heap.size W6 wr) (fun _ v18 _ => ns5 - (intOf v18).toNat)
            case atStart => exact ⟨0, Nat.zero_le _, rfl, rfl, HB0.out⟩
            case round =>
              obtain ⟨j, hj, rfl, rfl, hb⟩ := hrel
              obtain ⟨⟨x0, x1⟩, ⟨y0, y1, y2⟩, z0, z1, z2⟩ := HC.out _ hb
              by_cases hlt : j < ns5
              · skip
                have hj1 : j < X5.length := by rw [HX.out.2.1.1.row.len]; exact hlt
                have hj2 : j < (allA s).length := by rw [HLN.out.1]; exact hlt
                have hyl : absR X5[j] = (allA s)[j] := by simp only [← HX.out.2.1.2, List.getElem_map]
                have hstep := asks_step HV.out m hj2
                obtain ⟨p, hp, hfind, hps, hpos, hfl⟩ := all_at HV.out (List.getElem_mem hj2)
                have hfewL := allA_few HV.out _ (List.getElem_mem hj2)
                rw [← hyl] at hstep hfind hps hpos hfl hfewL
                have hok := HX.out.2.1.1.ok _ (List.getElem_mem hj1)
                obtain ⟨b, o, hAS, -, hcs⟩ := HX.out.2.1.1.cells hj1
                subst hAS
                have hp1 : p < X0.length := by rw [HX.out.1.1.row.len, ← HS.out.1.len]; exact hp
                have hpn : p < n' := by rw [← HS.out.1.len]; exact hp
                have hxp : absR X0[p] = s.1[p] := by simp only [← HX.out.1.2, List.getElem_map]
                have hokp := HX.out.1.1.ok _ (List.getElem_mem hp1)
                obtain ⟨b', o', hAS', -, hcs'⟩ := HX.out.1.1.cells hp1
                subst hAS'
                rw [← hxp] at hps
                generalize X0[p] = yp at *
                generalize X5[j] = y at *
                obtain ⟨⟨⟨A0, n0, c0⟩, L⟩, ⟨⟨A1, m1, q1⟩, S⟩, T⟩ := y
                obtain ⟨⟨⟨A7, n7, c7⟩, L7⟩, ⟨⟨A8, m8, q8⟩, S8⟩, T8⟩ := yp
                unfold hdV at hcs hcs'
                (try dsimp only at hcs hcs')
                have hps : S8 = S := hps
                subst hps
                have hm1 : S8.length = m1 := hok.sam.len
                have hm8 : S8.length = m8 := hokp.sam.len
                obtain rfl : m8 = m1 := by omega
                have hpos : 0 < m8 := by have : 0 < S8.length := hpos; omega
                have hS0 : 0 < S8.length := by rw [hm1]; exact hpos
                obtain ⟨bs, os', hA1, -, hsc⟩ := hok.sam.lies.all (k := 0) hS0
                have hA1 : A1 = some ⟨bs, os', none⟩ := hA1
                subst hA1
                have hfl0 : s.2 ≤ (S8[0]'hS0).1 := hfl _ (List.getElem_mem hS0)
                obtain ⟨z0', hz0'⟩ : ∃ z, S8[0]'hS0 = z := ⟨_, rfl⟩
                rw [hz0'] at hsc hfl0
                have hqle := hok.sam.le
                have hqcap : q1 ≤ 9223372036854775807 := hok.sam.cap
                have hnl : ¬ z0'.1 < s.2 := by omega
                obtain ⟨z, hz⟩ : ∃ z, kA s m j = z := ⟨_, rfl⟩
                rw [hz] at hstep
                rw [hz]
                have hkz : z ≤ j := by rw [← hz]; unfold kA; exact Nat.le_trans (List.length_filter_le ..) (by rw [List.length_take]; omega)
                have hfind : findI s.1 L = (p : Int) := hfind
                have HSTP := Lib.hid hstep
                have HCE := Lib.hid (fun (V : World) (hV : Below W6.heap.size W6 V) => And.intro (hcs V hV) (And.intro (hcs' V hV).2.1 (by have := hsc V hV 0 _ rfl; simpa using this : V.cell? ⟨bs, os', none⟩ = some (.int .i64 z0'.1))))
                have hbd : Below W6.heap.size W6 wr.drew := ⟨hb.os, hb.tape, hb.output, hb.size, hb.block⟩
                have KF := Lib.hid (by
                  have := find_c (f := s.2) (L := L) (A2 := A0) (n2 := n0) (c2 := c0) (HS.out.1.ser.later (later B6.out hbd)) (by omega) (fun x hx => few_of_check (HV.out.right x hx).lab) (hok.lab.later hbd) hfewL
                  rw [hfind] at this
                  exact this : Calls Try.prog 16 #[.agg #[.slice (some ⟨b', o', none⟩) n' c', .int .i64 s.2], .slice A0 n0 c0] wr.drew fun e w' => e = .returned (.int .i64 (p : Int)) ∧ Below wr.drew.heap.size wr.drew w')
                have HOL := Lib.hid (And.intro hok.lab hfewL)
                obtain ⟨⟨d0, d1, d2⟩, d3, d4⟩ := HCE.out _ hb
                have HBD := Lib.hid hbd
                have i0 : (0 : Int) ≤ (j : Int) := by omega
                have i1 : (j : Int) < (ns5 : Int) := by omega
                have i2 : (0 : Int) ≤ (p : Int) := by omega
                have i3 : (p : Int) < (n' : Int) := by omega
                have i4 : (0 : Int) < (m8 : Int) := by omega
                have i5 : ¬ (p : Int) < 0 := by omega
                clear hstep hcs hcs' hsc hbd hok hokp hfind hpos hfl hfewL hyl hxp hb hz hz0' hm1 hm8
                go_wp2_with fail
                go_still_tail 7, (by kernel_rfl)
                go_wp2_with fail
                refine KF.out.mono ?_
                rintro e w1 ⟨rfl, hb1⟩
                have HB1 := Lib.hid (later HBD.out hb1)
                clear hb1 KF x0 x1 y0 y1 y2 z0 z1 z2 d0 d1 d2 d3 d4
                obtain ⟨⟨x0, x1⟩, ⟨y0, y1, y2⟩, z0, z1, z2⟩ := HC.out _ HB1.out
                obtain ⟨⟨d0, d1, d2⟩, d3, d4⟩ := HCE.out _ HB1.out
                go_wp2_with fail
                refine wp_region_held_drew (S := (fun W : World => (W.cell? ⟨g, 0, none⟩ = some (.slice (some ⟨b', o', none⟩) n' c') ∧ W.cell? ⟨g, 1, none⟩ = some (.int .i64 s.2)) ∧ W.cell? ⟨w5.heap.size + 1, 2, none⟩ = some (.slice (some ⟨b, o, none⟩) ns5 cs5) ∧ W.cell? ⟨b, o + j * 3 + 1, none⟩ = some (.slice (some ⟨bs, os', none⟩) m8 q1) ∧ W.cell? ⟨b', o' + p * 3 + 1, none⟩ = some (.slice A8 m8 q8) ∧ W.cell? ⟨bs, os', none⟩ = some (.int .i64 z0'.1))) (by kernel_rfl) ⟨⟨x0, x1⟩, y2, d1, d3, d4⟩ (fun hHeld => ?_)
                refine wpAnyH_take (i := 0) (v := ?_) rfl (by kernel_rfl) (by kernel_rfl) (by kernel_rfl) (fun _ _ _ h => h) (Or.inl ⟨by rfl, ?_⟩) (by assumption) ?_
                rotate_left
                · intro w hSw
                  (try dsimp only at hSw)
                  go_simp
                  (try with_reducible rfl)
                (try simp only [Act.put, List.getElem_toArray, List.getElem_cons_succ, List.getElem_cons_zero, List.setIfInBounds_toArray, List.set_cons_zero, List.set_cons_succ])
                refine wpAnyH_take (i := 1) (v := ?_) rfl (by kernel_rfl) (by kernel_rfl) (by kernel_rfl) (fun _ _ _ h => h) (Or.inl ⟨by rfl, ?_⟩) (by assumption) ?_
                rotate_left
                · intro w hSw
                  (try dsimp only at hSw)
                  go_simp
                  (try with_reducible rfl)
                (try simp only [Act.put, List.getElem_toArray, List.getElem_cons_succ, List.getElem_cons_zero, List.setIfInBounds_toArray, List.set_cons_zero, List.set_cons_succ])
                refine wpAnyH_take (i := 2) (v := ?_) rfl (by kernel_rfl) (by kernel_rfl) (by kernel_rfl) (fun _ _ _ h => h) (Or.inl ⟨by rfl, ?_⟩) (by assumption) ?_
                rotate_left
                · intro w hSw
                  (try dsimp only at hSw)
                  go_simp
                  (try with_reducible rfl)
                (try simp only [Act.put, List.getElem_toArray, List.getElem_cons_succ, List.getElem_cons_zero, List.setIfInBounds_toArray, List.set_cons_zero, List.set_cons_succ])
                refine wpAnyH_take (i := 3) (v := ?_) rfl (by kernel_rfl) (by kernel_rfl) (by kernel_rfl) (fun _ _ _ h => h) (Or.inl ⟨by rfl, ?_⟩) (by assumption) ?_
                rotate_left
                · intro w hSw
                  (try dsimp only at hSw)
                  go_simp
                  (try with_reducible rfl)
                (try simp only [Act.put, List.getElem_toArray, List.getElem_cons_succ, List.getElem_cons_zero, List.setIfInBounds_toArray, List.set_cons_zero, List.set_cons_succ])
                refine wpAnyH_take (i := 4) (v := ?_) rfl (by kernel_rfl) (by kernel_rfl) (by kernel_rfl) (fun _ _ _ h => h) (Or.inl ⟨by rfl, ?_⟩) (by assumption) ?_
                rotate_left
                · intro w hSw
                  (try dsimp only at hSw)
                  go_simp
                  (try with_reducible rfl)
                (try simp only [Act.put, List.getElem_toArray, List.getElem_cons_succ, List.getElem_cons_zero, List.setIfInBounds_toArray, List.set_cons_zero, List.set_cons_succ])
                refine wpAnyH_take (i := 5) (v := ?_) rfl (by kernel_rfl) (by kernel_rfl) (by kernel_rfl) (fun _ _ _ h => h) (Or.inl ⟨by rfl, ?_⟩) (by assumption) ?_
                rotate_left
                · intro w hSw
                  (try dsimp only at hSw)
                  go_simp
                  (try with_reducible rfl)
                (try simp only [Act.put, List.getElem_toArray, List.getElem_cons_succ, List.getElem_cons_zero, List.setIfInBounds_toArray, List.set_cons_zero, List.set_cons_succ])
                refine wpAnyH_take (i := 6) (v := ?_) rfl (by kernel_rfl) (by kernel_rfl) (by kernel_rfl) (fun _ _ _ h => h) (Or.inl ⟨by rfl, ?_⟩) (by assumption) ?_
                rotate_left
                · intro w hSw
                  (try dsimp only at hSw)
                  go_simp
                  (try with_reducible rfl)
                (try simp only [Act.put, List.getElem_toArray, List.getElem_cons_succ, List.getElem_cons_zero, List.setIfInBounds_toArray, List.set_cons_zero, List.set_cons_succ])
                refine wpAnyH_take (i := 7) (v := ?_) rfl (by kernel_rfl) (by kernel_rfl) (by kernel_rfl) (fun _ _ _ h => h) (Or.inl ⟨by rfl, ?_⟩) (by assumption) ?_
                rotate_left
                · intro w hSw
                  (try dsimp only at hSw)
                  go_simp
                  (try with_reducible rfl)
                (try simp only [Act.put, List.getElem_toArray, List.getElem_cons_succ, List.getElem_cons_zero, List.setIfInBounds_toArray, List.set_cons_zero, List.set_cons_succ])
                refine wpAnyH_take (i := 8) (v := ?_) rfl (by kernel_rfl) (by kernel_rfl) (by kernel_rfl) (fun _ _ _ h => h) (Or.inl ⟨by rfl, ?_⟩) (by assumption) ?_
                rotate_left
                · intro w hSw
                  (try dsimp only at hSw)
                  go_simp
                  (try with_reducible rfl)
                (try simp only [Act.put, List.getElem_toArray, List.getElem_cons_succ, List.getElem_cons_zero, List.setIfInBounds_toArray, List.set_cons_zero, List.set_cons_succ])
                refine wpAnyH_take (i := 9) (v := ?_) rfl (by kernel_rfl) (by kernel_rfl) (by kernel_rfl) (fun _ _ _ h => h) (Or.inl ⟨by rfl, ?_⟩) (by assumption) ?_
                rotate_left
                · intro w hSw
                  (try dsimp only at hSw)
                  go_simp
                  (try with_reducible rfl)
                (try simp only [Act.put, List.getElem_toArray, List.getElem_cons_succ, List.getElem_cons_zero, List.setIfInBounds_toArray, List.set_cons_zero, List.set_cons_succ])
                refine wpAnyH_take (i := 10) (v := ?_) rfl (by kernel_rfl) (by kernel_rfl) (by kernel_rfl) (fun _ _ _ h => h) (Or.inl ⟨by rfl, ?_⟩) (by assumption) ?_
                rotate_left
                · intro w hSw
                  (try dsimp only at hSw)
                  go_simp
                  (try with_reducible rfl)
                (try simp only [Act.put, List.getElem_toArray, List.getElem_cons_succ, List.getElem_cons_zero, List.setIfInBounds_toArray, List.set_cons_zero, List.set_cons_succ])
                refine wpAnyH_take (i := 11) (v := ?_) rfl (by kernel_rfl) (by kernel_rfl) (by kernel_rfl) (fun _ _ _ h => h) (Or.inl ⟨by rfl, ?_⟩) (by assumption) ?_
                rotate_left
                · intro w hSw
                  (try dsimp only at hSw)
                  go_simp
                  (try with_reducible rfl)
                (try simp only [Act.put, List.getElem_toArray, List.getElem_cons_succ, List.getElem_cons_zero, List.setIfInBounds_toArray, List.set_cons_zero, List.set_cons_succ])
                refine wpAnyH_take (i := 12) (v := ?_) rfl (by kernel_rfl) (by kernel_rfl) (by kernel_rfl) (fun _ _ _ h => h) (Or.inl ⟨by rfl, ?_⟩) (by assumption) ?_
                rotate_left
                · intro w hSw
                  (try dsimp only at hSw)
                  go_simp
                  (try with_reducible rfl)
                (try simp only [Act.put, List.getElem_toArray, List.getElem_cons_succ, List.getElem_cons_zero, List.setIfInBounds_toArray, List.set_cons_zero, List.set_cons_succ])
                refine wpAnyH_take (i := 13) (v := ?_) rfl (by kernel_rfl) (by kernel_rfl) (by kernel_rfl) (fun _ _ _ h => h) (Or.inl ⟨by rfl, ?_⟩) (by assumption) ?_
                rotate_left
                · intro w hSw
                  (try dsimp only at hSw)
                  go_simp
                  (try with_reducible rfl)
                (try simp only [Act.put, List.getElem_toArray, List.getElem_cons_succ, List.getElem_cons_zero, List.setIfInBounds_toArray, List.set_cons_zero, List.set_cons_succ])
                refine wpAnyH_take (i := 14) (v := ?_) rfl (by kernel_rfl) (by kernel_rfl) (by kernel_rfl) (fun _ _ _ h => h) (Or.inl ⟨by rfl, ?_⟩) (by assumption) ?_
                rotate_left
                · intro w hSw
                  (try dsimp only at hSw)
                  go_simp
                  (try with_reducible rfl)
                (try simp only [Act.put, List.getElem_toArray, List.getElem_cons_succ, List.getElem_cons_zero, List.setIfInBounds_toArray, List.set_cons_zero, List.set_cons_succ])
                refine wpAnyH_take (i := 15) (v := ?_) rfl (by kernel_rfl) (by kernel_rfl) (by kernel_rfl) (fun _ _ _ h => h) (Or.inl ⟨by rfl, ?_⟩) (by assumption) ?_
                rotate_left
                · intro w hSw
                  (try dsimp only at hSw)
                  go_simp
                  (try with_reducible rfl)
                (try simp only [Act.put, List.getElem_toArray, List.getElem_cons_succ, List.getElem_cons_zero, List.setIfInBounds_toArray, List.set_cons_zero, List.set_cons_succ])
                refine wpAnyH_take (i := 16) (v := ?_) rfl (by kernel_rfl) (by kernel_rfl) (by kernel_rfl) (fun _ _ _ h => h) (Or.inl ⟨by rfl, ?_⟩) (by assumption) ?_
                rotate_left
                · intro w hSw
                  (try dsimp only at hSw)
                  go_simp
                  (try with_reducible rfl)
                (try simp only [Act.put, List.getElem_toArray, List.getElem_cons_succ, List.getElem_cons_zero, List.setIfInBounds_toArray, List.set_cons_zero, List.set_cons_succ])
                refine wpAnyH_take (i := 17) (v := ?_) rfl (by kernel_rfl) (by kernel_rfl) (by kernel_rfl) (fun _ _ _ h => h) (Or.inl ⟨by rfl, ?_⟩) (by assumption) ?_
                rotate_left
                · intro w hSw
                  (try dsimp only at hSw)
                  go_simp
                  (try with_reducible rfl)
                (try simp only [Act.put, List.getElem_toArray, List.getElem_cons_succ, List.getElem_cons_zero, List.setIfInBounds_toArray, List.set_cons_zero, List.set_cons_succ])
                refine wpAnyH_take (i := 18) (v := ?_) rfl (by kernel_rfl) (by kernel_rfl) (by kernel_rfl) (fun _ _ _ h => h) (Or.inl ⟨by rfl, ?_⟩) (by assumption) ?_
                rotate_left
                · intro w hSw
                  (try dsimp only at hSw)
                  go_simp
                  (try with_reducible rfl)
                (try simp only [Act.put, List.getElem_toArray, List.getElem_cons_succ, List.getElem_cons_zero, List.setIfInBounds_toArray, List.set_cons_zero, List.set_cons_succ])
                refine wpAnyH_take (i := 19) (v := ?_) rfl (by kernel_rfl) (by kernel_rfl) (by kernel_rfl) (fun _ _ _ h => h) (Or.inl ⟨by rfl, ?_⟩) (by assumption) ?_
                rotate_left
                · intro w hSw
                  (try dsimp only at hSw)
                  go_simp
                  (try with_reducible rfl)
                (try simp only [Act.put, List.getElem_toArray, List.getElem_cons_succ, List.getElem_cons_zero, List.setIfInBounds_toArray, List.set_cons_zero, List.set_cons_succ])
                refine wpAnyH_take (i := 20) (v := ?_) rfl (by kernel_rfl) (by kernel_rfl) (by kernel_rfl) (fun _ _ _ h => h) (Or.inl ⟨by rfl, ?_⟩) (by assumption) ?_
                rotate_left
                · intro w hSw
                  (try dsimp only at hSw)
                  go_simp
                  (try with_reducible rfl)
                (try simp only [Act.put, List.getElem_toArray, List.getElem_cons_succ, List.getElem_cons_zero, List.setIfInBounds_toArray, List.set_cons_zero, List.set_cons_succ])
                refine wpAnyH_take (i := 21) (v := ?_) rfl (by kernel_rfl) (by kernel_rfl) (by kernel_rfl) (fun _ _ _ h => h) (Or.inl ⟨by rfl, ?_⟩) (by assumption) ?_
                rotate_left
                · intro w hSw
                  (try dsimp only at hSw)
                  go_simp
                  (try with_reducible rfl)
                (try simp only [Act.put, List.getElem_toArray, List.getElem_cons_succ, List.getElem_cons_zero, List.setIfInBounds_toArray, List.set_cons_zero, List.set_cons_succ])
                refine wpAnyH_take (i := 22) (v := ?_) rfl (by kernel_rfl) (by kernel_rfl) (by kernel_rfl) (fun _ _ _ h => h) (Or.inl ⟨by rfl, ?_⟩) (by assumption) ?_
                rotate_left
                · intro w hSw
                  (try dsimp only at hSw)
                  go_simp
                  (try with_reducible rfl)
                (try simp only [Act.put, List.getElem_toArray, List.getElem_cons_succ, List.getElem_cons_zero, List.setIfInBounds_toArray, List.set_cons_zero, List.set_cons_succ])
                refine wpAnyH_take (i := 23) (v := ?_) rfl (by kernel_rfl) (by kernel_rfl) (by kernel_rfl) (fun _ _ _ h => h) (Or.inl ⟨by rfl, ?_⟩) (by assumption) ?_
                rotate_left
                · intro w hSw
                  (try dsimp only at hSw)
                  go_simp
                  (try with_reducible rfl)
                (try simp only [Act.put, List.getElem_toArray, List.getElem_cons_succ, List.getElem_cons_zero, List.setIfInBounds_toArray, List.set_cons_zero, List.set_cons_succ])
                refine wpAnyH_take (i := 24) (v := ?_) rfl (by kernel_rfl) (by kernel_rfl) (by kernel_rfl) (fun _ _ _ h => h) (Or.inl ⟨by rfl, ?_⟩) (by assumption) ?_
                rotate_left
                · intro w hSw
                  (try dsimp only at hSw)
                  go_simp
                  (try with_reducible rfl)
                (try simp only [Act.put, List.getElem_toArray, List.getElem_cons_succ, List.getElem_cons_zero, List.setIfInBounds_toArray, List.set_cons_zero, List.set_cons_succ])
                refine wpAnyH_take (i := 25) (v := ?_) rfl (by kernel_rfl) (by kernel_rfl) (by kernel_rfl) (fun _ _ _ h => h) (Or.inl ⟨by rfl, ?_⟩) (by assumption) ?_
                rotate_left
                · intro w hSw
                  (try dsimp only at hSw)
                  go_simp
                  (try with_reducible rfl)
                (try simp only [Act.put, List.getElem_toArray, List.getElem_cons_succ, List.getElem_cons_zero, List.setIfInBounds_toArray, List.set_cons_zero, List.set_cons_succ])
                refine wpAnyH_take (i := 26) (v := ?_) rfl (by kernel_rfl) (by kernel_rfl) (by kernel_rfl) (fun _ _ _ h => h) (Or.inl ⟨by rfl, ?_⟩) (by assumption) ?_
                rotate_left
                · intro w hSw
                  (try dsimp only at hSw)
                  go_simp
                  (try with_reducible rfl)
                (try simp only [Act.put, List.getElem_toArray, List.getElem_cons_succ, List.getElem_cons_zero, List.setIfInBounds_toArray, List.set_cons_zero, List.set_cons_succ])
                refine wpAnyH_take (i := 27) (v := ?_) rfl (by kernel_rfl) (by kernel_rfl) (by kernel_rfl) (fun _ _ _ h => h) (Or.inl ⟨by rfl, ?_⟩) (by assumption) ?_
                rotate_left
                · intro w hSw
                  (try dsimp only at hSw)
                  go_simp
                  (try with_reducible rfl)
                (try simp only [Act.put, List.getElem_toArray, List.getElem_cons_succ, List.getElem_cons_zero, List.setIfInBounds_toArray, List.set_cons_zero, List.set_cons_succ])
                refine wpAnyH_take (i := 28) (v := ?_) rfl (by kernel_rfl) (by kernel_rfl) (by kernel_rfl) (fun _ _ _ h => h) (Or.inl ⟨by rfl, ?_⟩) (by assumption) ?_
                rotate_left
                · intro w hSw
                  (try dsimp only at hSw)
                  go_simp
                  (try with_reducible rfl)
                (try simp only [Act.put, List.getElem_toArray, List.getElem_cons_succ, List.getElem_cons_zero, List.setIfInBounds_toArray, List.set_cons_zero, List.set_cons_succ])
                refine wpAnyH_take (i := 29) (v := ?_) rfl (by kernel_rfl) (by kernel_rfl) (by kernel_rfl) (fun _ _ _ h => h) (Or.inl ⟨by rfl, ?_⟩) (by assumption) ?_
                rotate_left
                · intro w hSw
                  (try dsimp only at hSw)
                  go_simp
                  (try with_reducible rfl)
                (try simp only [Act.put, List.getElem_toArray, List.getElem_cons_succ, List.getElem_cons_zero, List.setIfInBounds_toArray, List.set_cons_zero, List.set_cons_succ])
                refine wpAnyH_take (i := 30) (v := ?_) rfl (by kernel_rfl) (by kernel_rfl) (by kernel_rfl) (fun _ _ _ h => h) (Or.inl ⟨by rfl, ?_⟩) (by assumption) ?_
                rotate_left
                · intro w hSw
                  (try dsimp only at hSw)
                  go_simp
                  (try with_reducible rfl)
                (try simp only [Act.put, List.getElem_toArray, List.getElem_cons_succ, List.getElem_cons_zero, List.setIfInBounds_toArray, List.set_cons_zero, List.set_cons_succ])
                refine wpAnyH_take (i := 31) (v := ?_) rfl (by kernel_rfl) (by kernel_rfl) (by kernel_rfl) (fun _ _ _ h => h) (Or.inl ⟨by rfl, ?_⟩) (by assumption) ?_
                rotate_left
                · intro w hSw
                  (try dsimp only at hSw)
                  go_simp
                  (try with_reducible rfl)
                (try simp only [Act.put, List.getElem_toArray, List.getElem_cons_succ, List.getElem_cons_zero, List.setIfInBounds_toArray, List.set_cons_zero, List.set_cons_succ])
                refine wpAnyH_take (i := 32) (v := ?_) rfl (by kernel_rfl) (by kernel_rfl) (by kernel_rfl) (fun _ _ _ h => h) (Or.inl ⟨by rfl, ?_⟩) (by assumption) ?_
                rotate_left
                · intro w hSw
                  (try dsimp only at hSw)
                  go_simp
                  (try with_reducible rfl)
                (try simp only [Act.put, List.getElem_toArray, List.getElem_cons_succ, List.getElem_cons_zero, List.setIfInBounds_toArray, List.set_cons_zero, List.set_cons_succ])
                refine wpAnyH_done (by kernel_rfl) ?_ _
                clear hHeld
                go_wp2_with fail
                have k0 : (0 : Int) ≤ (z : Int) := by omega
                by_cases hz6 : z < ns6
                · have hz1 : z < X6.length := by rw [HX.out.2.2.1.row.len]; exact hz6
                  have hz2 : z < (someA s m).length := by rw [HLN.out.2]; exact hz6
                  have hX6 : absR X6[z] = (someA s m)[z] := by simp only [← HX.out.2.2.2, List.getElem_map]
                  obtain ⟨b6, o6, hA6, hlt6, hcs6⟩ := HX.out.2.2.1.row.lies.all hz1
                  subst hA6
                  have hsub : ∀ V, Below W6.heap.size W6 V → SeA V (some ⟨b6, o6 + z * 3, none⟩) 1 (cs6 - z) [(someA s m)[z]] := fun V hV => by
                    refine ⟨[X6[z]], ⟨⟨rfl, by omega, by unfold maxLen; omega, ?_, fun _ _ => trivial⟩, fun y hy => ?_⟩, by rw [List.map_cons, List.map_nil, hX6]⟩
                    · intro k y hk
                      cases k with
                      | zero =>
                        injection hk with hk
                        subst hk
                        exact ⟨b6, o6 + z * 3, rfl, Nat.lt_of_lt_of_le hlt6 hV.size, fun u hu => by have := hcs6 V hV u; simpa using this _⟩
                      | succ k => cases hk
                    · rw [List.mem_singleton.1 hy]
                      exact (HX.out.2.2.1.ok _ (List.getElem_mem hz1)).later hV
                  have HSUB := Lib.hid hsub
                  have hR : ∃ R : Int, findI [(someA s m)[z]] L = R ∧ ((R = 0 ∧ kA s m (j + 1) = z + 1) ∨ (R = -1 ∧ kA s m (j + 1) = z)) := by
                    cases hfit : allB m L with
                    | true => exact ⟨0, (HSTP.out.1.1 hfit).2, .inl ⟨rfl, HSTP.out.2.trans (congrArg (z + ·) (if_pos hfit))⟩⟩
                    | false => exact ⟨-1, HSTP.out.1.2 hfit hz2, .inr ⟨rfl, HSTP.out.2.trans (congrArg (z + ·) (if_neg (fun e => Bool.noConfusion (hfit.symm.trans e))))⟩⟩
                  obtain ⟨R, hR, hRR⟩ := hR
                  have K31 := Lib.hid (fun (V : World) (hV : Below W6.heap.size W6 V) => (by
                    have := find_c (f := 0) (L := L) (A2 := A0) (n2 := n0) (c2 := c0) (hsub V hV) (by decide) (fun x hx => by rw [List.mem_singleton.1 hx]; exact allA_few HV.out _ (List.mem_filter.1 (List.getElem_mem hz2)).1) (HOL.out.1.later hV) HOL.out.2
                    rw [hR] at this
                    exact this : Calls Try.prog 16 #[.agg #[.slice (some ⟨b6, o6 + z * 3, none⟩) 1 (cs6 - z), .int .i64 0], .slice A0 n0 c0] V fun e w' => e = .returned (.int .i64 R) ∧ Below V.heap.size V w'))
                  have HRR := Lib.hid hRR
                  clear hsub hR hRR hX6 hcs6
                  have k1 : (z : Int) < (ns6 : Int) := by omega
                  have k2 : (z : Int) ≤ (z : Int) + 1 := by omega
                  have k3 : (z : Int) + 1 ≤ (cs6 : Int) := by omega
                  have k4 : ¬ cs6 = z := by omega
                  have hwr : IntKind.i64.wrap ((z : Int) + 1) = (z : Int) + 1 := IntWalk.i64_in _ (by omega)
                  have hbw1 : Below W6.heap.size W6 w1.drew.drew := ⟨HB1.out.os, HB1.out.tape, HB1.out.output, HB1.out.size, HB1.out.block⟩
                  have K32 := Lib.hid (K31.out _ hbw1)
                  refine wp_region_held_drew (S := (fun W : World => W.cell? ⟨w6.heap.size + 1, 2, none⟩ = some (.slice (some ⟨b6, o6, none⟩) ns6 cs6) ∧ W.cell? ⟨w5.heap.size + 1, 2, none⟩ = some (.slice (some ⟨b, o, none⟩) ns5 cs5) ∧ W.cell? ⟨b, o + j * 3, none⟩ = some (.slice A0 n0 c0))) (by kernel_rfl) ⟨z2, y2, d0⟩ (fun hHeld => ?_)
                  refine wpAnyH_take (i := 0) (v := ?_) rfl (by kernel_rfl) (by kernel_rfl) (by kernel_rfl) (fun _ _ _ h => h) (Or.inl ⟨by rfl, ?_⟩) (by assumption) ?_
                  rotate_left
                  · intro w hSw
                    (try dsimp only at hSw)
                    go_simp
                    (try with_reducible rfl)
                  (try simp only [Act.put, List.getElem_toArray, List.getElem_cons_succ, List.getElem_cons_zero, List.setIfInBounds_toArray, List.set_cons_zero, List.set_cons_succ])
                  refine wpAnyH_take (i := 1) (v := ?_) rfl (by kernel_rfl) (by kernel_rfl) (by kernel_rfl) (fun _ _ _ h => h) (Or.inl ⟨by rfl, ?_⟩) (by assumption) ?_
                  rotate_left
                  · intro w hSw
                    (try dsimp only at hSw)
                    go_simp
                    (try with_reducible rfl)
                  (try simp only [Act.put, List.getElem_toArray, List.getElem_cons_succ, List.getElem_cons_zero, List.setIfInBounds_toArray, List.set_cons_zero, List.set_cons_succ])
                  refine wpAnyH_take (i := 2) (v := ?_) rfl (by kernel_rfl) (by kernel_rfl) (by kernel_rfl) (fun _ _ _ h => h) (Or.inl ⟨by rfl, ?_⟩) (by assumption) ?_
                  rotate_left
                  · intro w hSw
                    (try dsimp only at hSw)
                    go_simp
                    (try with_reducible rfl)
                  (try simp only [Act.put, List.getElem_toArray, List.getElem_cons_succ, List.getElem_cons_zero, List.setIfInBounds_toArray, List.set_cons_zero, List.set_cons_succ])
                  refine wpAnyH_take (i := 3) (v := ?_) rfl (by kernel_rfl) (by kernel_rfl) (by kernel_rfl) (fun _ _ _ h => h) (Or.inl ⟨by rfl, ?_⟩) (by assumption) ?_
                  rotate_left
                  · intro w hSw
                    (try dsimp only at hSw)
                    go_simp
                    (try with_reducible rfl)
                  (try simp only [Act.put, List.getElem_toArray, List.getElem_cons_succ, List.getElem_cons_zero, List.setIfInBounds_toArray, List.set_cons_zero, List.set_cons_succ])
                  refine wpAnyH_take (i := 4) (v := ?_) rfl (by kernel_rfl) (by kernel_rfl) (by kernel_rfl) (fun _ _ _ h => h) (Or.inl ⟨by rfl, ?_⟩) (by assumption) ?_
                  rotate_left
                  · intro w hSw
                    (try dsimp only at hSw)
                    go_simp
                    (try with_reducible rfl)
                  (try simp only [Act.put, List.getElem_toArray, List.getElem_cons_succ, List.getElem_cons_zero, List.setIfInBounds_toArray, List.set_cons_zero, List.set_cons_succ])
                  refine wpAnyH_take (i := 5) (v := ?_) rfl (by kernel_rfl) (by kernel_rfl) (by kernel_rfl) (fun _ _ _ h => h) (Or.inl ⟨by rfl, ?_⟩) (by assumption) ?_
                  rotate_left
                  · intro w hSw
                    (try dsimp only at hSw)
                    go_simp
                    (try with_reducible rfl)
                  (try simp only [Act.put, List.getElem_toArray, List.getElem_cons_succ, List.getElem_cons_zero, List.setIfInBounds_toArray, List.set_cons_zero, List.set_cons_succ])
                  refine wpAnyH_take (i := 6) (v := ?_) rfl (by kernel_rfl) (by kernel_rfl) (by kernel_rfl) (fun _ _ _ h => h) (Or.inl ⟨by rfl, ?_⟩) (by assumption) ?_
                  rotate_left
                  · intro w hSw
                    (try dsimp only at hSw)
                    go_simp
                    (try with_reducible rfl)
                  (try simp only [Act.put, List.getElem_toArray, List.getElem_cons_succ, List.getElem_cons_zero, List.setIfInBounds_toArray, List.set_cons_zero, List.set_cons_succ])
                  refine wpAnyH_take (i := 7) (v := ?_) rfl (by kernel_rfl) (by kernel_rfl) (by kernel_rfl) (fun _ _ _ h => h) (Or.inl ⟨by rfl, ?_⟩) (by assumption) ?_
                  rotate_left
                  · intro w hSw
                    (try dsimp only at hSw)
                    go_simp
                    (try with_reducible rfl)
                  (try simp only [Act.put, List.getElem_toArray, List.getElem_cons_succ, List.getElem_cons_zero, List.setIfInBounds_toArray, List.set_cons_zero, List.set_cons_succ])
                  refine wpAnyH_take (i := 8) (v := ?_) rfl (by kernel_rfl) (by kernel_rfl) (by kernel_rfl) (fun _ _ _ h => h) (Or.inl ⟨by rfl, ?_⟩) (by assumption) ?_
                  rotate_left
                  · intro w hSw
                    (try dsimp only at hSw)
                    go_simp
                    (try with_reducible rfl)
                  (try simp only [Act.put, List.getElem_toArray, List.getElem_cons_succ, List.getElem_cons_zero, List.setIfInBounds_toArray, List.set_cons_zero, List.set_cons_succ])
                  refine wpAnyH_take (i := 9) (v := ?_) rfl (by kernel_rfl) (by kernel_rfl) (by kernel_rfl) (fun _ _ _ h => h) (Or.inl ⟨by rfl, ?_⟩) (by assumption) ?_
                  rotate_left
                  · intro w hSw
                    (try dsimp only at hSw)
                    go_simp
                    (try with_reducible rfl)
                  (try simp only [Act.put, List.getElem_toArray, List.getElem_cons_succ, List.getElem_cons_zero, List.setIfInBounds_toArray, List.set_cons_zero, List.set_cons_succ])
                  refine wpAnyH_take (i := 10) (v := ?_) rfl (by kernel_rfl) (by kernel_rfl) (by kernel_rfl) (fun _ _ _ h => h) (Or.inl ⟨by rfl, ?_⟩) (by assumption) ?_
                  rotate_left
                  · intro w hSw
                    (try dsimp only at hSw)
                    go_simp
                    (try with_reducible rfl)
                  (try simp only [Act.put, List.getElem_toArray, List.getElem_cons_succ, List.getElem_cons_zero, List.setIfInBounds_toArray, List.set_cons_zero, List.set_cons_succ])
                  refine wpAnyH_take (i := 11) (v := ?_) rfl (by kernel_rfl) (by kernel_rfl) (by kernel_rfl) (fun _ _ _ h => h) (Or.inl ⟨by rfl, ?_⟩) (by assumption) ?_
                  rotate_left
                  · intro w hSw
                    (try dsimp only at hSw)
                    go_simp
                    (try with_reducible rfl)
                  (try simp only [Act.put, List.getElem_toArray, List.getElem_cons_succ, List.getElem_cons_zero, List.setIfInBounds_toArray, List.set_cons_zero, List.set_cons_succ])
                  refine wpAnyH_take (i := 12) (v := ?_) rfl (by kernel_rfl) (by kernel_rfl) (by kernel_rfl) (fun _ _ _ h => h) (Or.inl ⟨by rfl, ?_⟩) (by assumption) ?_
                  rotate_left
                  · intro w hSw
                    (try dsimp only at hSw)
                    go_simp
                    (try with_reducible rfl)
                  (try simp only [Act.put, List.getElem_toArray, List.getElem_cons_succ, List.getElem_cons_zero, List.setIfInBounds_toArray, List.set_cons_zero, List.set_cons_succ])
                  refine wpAnyH_take (i := 13) (v := ?_) rfl (by kernel_rfl) (by kernel_rfl) (by kernel_rfl) (fun _ _ _ h => h) (Or.inl ⟨by rfl, ?_⟩) (by assumption) ?_
                  rotate_left
                  · intro w hSw
                    (try dsimp only at hSw)
                    go_simp
                    (try with_reducible rfl)
                  (try simp only [Act.put, List.getElem_toArray, List.getElem_cons_succ, List.getElem_cons_zero, List.setIfInBounds_toArray, List.set_cons_zero, List.set_cons_succ])
                  refine wpAnyH_take (i := 14) (v := ?_) rfl (by kernel_rfl) (by kernel_rfl) (by kernel_rfl) (fun _ _ _ h => h) (Or.inl ⟨by rfl, ?_⟩) (by assumption) ?_
                  rotate_left
                  · intro w hSw
                    (try dsimp only at hSw)
                    go_simp
                    (try with_reducible rfl)
                  (try simp only [Act.put, List.getElem_toArray, List.getElem_cons_succ, List.getElem_cons_zero, List.setIfInBounds_toArray, List.set_cons_zero, List.set_cons_succ])
                  refine wpAnyH_take (i := 15) (v := ?_) rfl (by kernel_rfl) (by kernel_rfl) (by kernel_rfl) (fun _ _ _ h => h) (Or.inl ⟨by rfl, ?_⟩) (by assumption) ?_
                  rotate_left
                  · intro w hSw
                    (try dsimp only at hSw)
                    go_simp
                    (try with_reducible rfl)
                  (try simp only [Act.put, List.getElem_toArray, List.getElem_cons_succ, List.getElem_cons_zero, List.setIfInBounds_toArray, List.set_cons_zero, List.set_cons_succ])
                  refine wpAnyH_take (i := 16) (v := ?_) rfl (by kernel_rfl) (by kernel_rfl) (by kernel_rfl) (fun _ _ _ h => h) (Or.inl ⟨by rfl, ?_⟩) (by assumption) ?_
                  rotate_left
                  · intro w hSw
                    (try dsimp only at hSw)
                    go_simp
                    (try with_reducible rfl)
                  (try simp only [Act.put, List.getElem_toArray, List.getElem_cons_succ, List.getElem_cons_zero, List.setIfInBounds_toArray, List.set_cons_zero, List.set_cons_succ])
                  refine wpAnyH_take (i := 17) (v := ?_) rfl (by kernel_rfl) (by kernel_rfl) (by kernel_rfl) (fun _ _ _ h => h) (Or.inl ⟨by rfl, ?_⟩) (by assumption) ?_
                  rotate_left
                  · intro w hSw
                    (try dsimp only at hSw)
                    go_simp
                    (try with_reducible rfl)
                  (try simp only [Act.put, List.getElem_toArray, List.getElem_cons_succ, List.getElem_cons_zero, List.setIfInBounds_toArray, List.set_cons_zero, List.set_cons_succ])
                  refine wpAnyH_take (i := 18) (v := ?_) rfl (by kernel_rfl) (by kernel_rfl) (by kernel_rfl) (fun _ _ _ h => h) (Or.inl ⟨by rfl, ?_⟩) (by assumption) ?_
                  rotate_left
                  · intro w hSw
                    (try dsimp only at hSw)
                    go_simp
                    (try with_reducible rfl)
                  (try simp only [Act.put, List.getElem_toArray, List.getElem_cons_succ, List.getElem_cons_zero, List.setIfInBounds_toArray, List.set_cons_zero, List.set_cons_succ])
                  refine wpAnyH_ready (rs := [19]) (by kernel_rfl) (by simp) ?_
                  refine AllReadyH.cons rfl (fun K hK => ?_) AllReadyH.nil
                  go_simp
                  go_at_call 16
                  refine K32.out.mono ?_
                  rintro e w7 ⟨rfl, hb7⟩
                  have HB7 := Lib.hid (later hbw1 hb7)
                  have hS7 := And.intro (HC.out _ HB7.out).2.2.2.2 (And.intro (HC.out _ HB7.out).2.1.2.2 (HCE.out _ HB7.out).1.1)
                  clear hb7 K32 hbw1
                  (try go_wp2_with fail)
                  refine hK.out _ _ hS7 (fun hHeld2 => ?_)
                  clear hK K hHeld hS7
                  (try simp only [Act.put, List.setIfInBounds_toArray, List.set_cons_zero, List.set_cons_succ])
                  refine wpAnyH_take (i := 20) (v := ?_) rfl (by kernel_rfl) (by kernel_rfl) (by kernel_rfl) (fun _ _ _ h => h) (Or.inl ⟨by rfl, ?_⟩) (by assumption) ?_
                  rotate_left
                  · intro w hSw
                    (try dsimp only at hSw)
                    go_simp
                    (try with_reducible rfl)
                  (try simp only [Act.put, List.getElem_toArray, List.getElem_cons_succ, List.getElem_cons_zero, List.setIfInBounds_toArray, List.set_cons_zero, List.set_cons_succ])
                  refine wpAnyH_take (i := 21) (v := ?_) rfl (by kernel_rfl) (by kernel_rfl) (by kernel_rfl) (fun _ _ _ h => h) (Or.inl ⟨by rfl, ?_⟩) (by assumption) ?_
                  rotate_left
                  · intro w hSw
                    (try dsimp only at hSw)
                    go_simp
                    (try with_reducible rfl)
                  (try simp only [Act.put, List.getElem_toArray, List.getElem_cons_succ, List.getElem_cons_zero, List.setIfInBounds_toArray, List.set_cons_zero, List.set_cons_succ])
                  refine wpAnyH_done (by kernel_rfl) ?_ _
                  clear hHeld2 hwr k1 k2 k3 k4 x0 x1 y0 y1 y2 z0 z1 z2 d0 d1 d2 d3 d4 K31
                  rcases HRR.out with ⟨rfl, hkj⟩ | ⟨rfl, hkj⟩
                  · have HKJ := Lib.hid hkj
                    clear hkj HRR
                    go_wp2_with fail
                    go_roundw
                    case rel => exact ⟨j + 1, by omega, by go_num, by rw [HKJ.out]; go_num, HB7.out⟩
                    case measure => simp [intOf]; omega
                  · have HKJ := Lib.hid hkj
                    clear hkj HRR
                    go_wp2_with fail
                    go_roundw
                    case rel => exact ⟨j + 1, by omega, by go_num, by rw [HKJ.out], HB7.out⟩
                    case measure => simp [intOf]; omega
                · have k1 : ¬ (z : Int) < (ns6 : Int) := by omega
                  have hkj : kA s m (j + 1) = z := by
                    cases hfit : allB m L with
                    | true =>
                      obtain ⟨h, -⟩ := HSTP.out.1.1 hfit
                      rw [HLN.out.2] at h
                      exact absurd h hz6
                    | false => exact HSTP.out.2.trans (congrArg (z + ·) (if_neg (fun e => Bool.noConfusion (hfit.symm.trans e))))
                  have HKJ := Lib.hid hkj
                  clear hkj
                  refine wp_region_held_drew (S := (fun W : World => W.cell? ⟨w6.heap.size + 1, 2, none⟩ = some (.slice AS6 ns6 cs6))) (by kernel_rfl) z2 (fun hHeld => ?_)
                  refine wpAnyH_take (i := 0) (v := ?_) rfl (by kernel_rfl) (by kernel_rfl) (by kernel_rfl) (fun _ _ _ h => h) (Or.inl ⟨by rfl, ?_⟩) (by assumption) ?_
                  rotate_left
                  · intro w hSw
                    (try dsimp only at hSw)
                    go_simp
                    (try with_reducible rfl)
                  (try simp only [Act.put, List.getElem_toArray, List.getElem_cons_succ, List.getElem_cons_zero, List.setIfInBounds_toArray, List.set_cons_zero, List.set_cons_succ])
                  refine wpAnyH_take (i := 1) (v := ?_) rfl (by kernel_rfl) (by kernel_rfl) (by kernel_rfl) (fun _ _ _ h => h) (Or.inl ⟨by rfl, ?_⟩) (by assumption) ?_
                  rotate_left
                  · intro w hSw
                    (try dsimp only at hSw)
                    go_simp
                    (try with_reducible rfl)
                  (try simp only [Act.put, List.getElem_toArray, List.getElem_cons_succ, List.getElem_cons_zero, List.setIfInBounds_toArray, List.set_cons_zero, List.set_cons_succ])
                  refine wpAnyH_take (i := 2) (v := ?_) rfl (by kernel_rfl) (by kernel_rfl) (by kernel_rfl) (fun _ _ _ h => h) (Or.inl ⟨by rfl, ?_⟩) (by assumption) ?_
                  rotate_left
                  · intro w hSw
                    (try dsimp only at hSw)
                    go_simp
                    (try with_reducible rfl)
                  (try simp only [Act.put, List.getElem_toArray, List.getElem_cons_succ, List.getElem_cons_zero, List.setIfInBounds_toArray, List.set_cons_zero, List.set_cons_succ])
                  refine wpAnyH_take (i := 3) (v := ?_) rfl (by kernel_rfl) (by kernel_rfl) (by kernel_rfl) (fun _ _ _ h => h) (Or.inl ⟨by rfl, ?_⟩) (by assumption) ?_
                  rotate_left
                  · intro w hSw
                    (try dsimp only at hSw)
                    go_simp
                    (try with_reducible rfl)
                  (try simp only [Act.put, List.getElem_toArray, List.getElem_cons_succ, List.getElem_cons_zero, List.setIfInBounds_toArray, List.set_cons_zero, List.set_cons_succ])
                  refine wpAnyH_take (i := 4) (v := ?_) rfl (by kernel_rfl) (by kernel_rfl) (by kernel_rfl) (fun _ _ _ h => h) (Or.inl ⟨by rfl, ?_⟩) (by assumption) ?_
                  rotate_left
                  · intro w hSw
                    (try dsimp only at hSw)
                    go_simp
                    (try with_reducible rfl)
                  (try simp only [Act.put, List.getElem_toArray, List.getElem_cons_succ, List.getElem_cons_zero, List.setIfInBounds_toArray, List.set_cons_zero, List.set_cons_succ])
                  refine wpAnyH_take (i := 5) (v := ?_) rfl (by kernel_rfl) (by kernel_rfl) (by kernel_rfl) (fun _ _ _ h => h) (Or.inl ⟨by rfl, ?_⟩) (by assumption) ?_
                  rotate_left
                  · intro w hSw
                    (try dsimp only at hSw)
                    go_simp
                    (try with_reducible rfl)
                  (try simp only [Act.put, List.getElem_toArray, List.getElem_cons_succ, List.getElem_cons_zero, List.setIfInBounds_toArray, List.set_cons_zero, List.set_cons_succ])
                  refine wpAnyH_take (i := 6) (v := undef) rfl (by kernel_rfl) (by kernel_rfl) (by kernel_rfl) (fun _ _ _ h => h) (Or.inr ⟨by simp [Region.wanted, yielded], rfl⟩) (by assumption) ?_
                  (try simp only [Act.put, List.getElem_toArray, List.getElem_cons_succ, List.getElem_cons_zero, List.setIfInBounds_toArray, List.set_cons_zero, List.set_cons_succ])
                  refine wpAnyH_take (i := 7) (v := undef) rfl (by kernel_rfl) (by kernel_rfl) (by kernel_rfl) (fun _ _ _ h => h) (Or.inr ⟨by simp [Region.wanted, yielded], rfl⟩) (by assumption) ?_
                  (try simp only [Act.put, List.getElem_toArray, List.getElem_cons_succ, List.getElem_cons_zero, List.setIfInBounds_toArray, List.set_cons_zero, List.set_cons_succ])
                  refine wpAnyH_take (i := 8) (v := undef) rfl (by kernel_rfl) (by kernel_rfl) (by kernel_rfl) (fun _ _ _ h => h) (Or.inr ⟨by simp [Region.wanted, yielded], rfl⟩) (by assumption) ?_
                  (try simp only [Act.put, List.getElem_toArray, List.getElem_cons_succ, List.getElem_cons_zero, List.setIfInBounds_toArray, List.set_cons_zero, List.set_cons_succ])
                  refine wpAnyH_take (i := 9) (v := undef) rfl (by kernel_rfl) (by kernel_rfl) (by kernel_rfl) (fun _ _ _ h => h) (Or.inr ⟨by simp [Region.wanted, yielded], rfl⟩) (by assumption) ?_
                  (try simp only [Act.put, List.getElem_toArray, List.getElem_cons_succ, List.getElem_cons_zero, List.setIfInBounds_toArray, List.set_cons_zero, List.set_cons_succ])
                  refine wpAnyH_take (i := 10) (v := undef) rfl (by kernel_rfl) (by kernel_rfl) (by kernel_rfl) (fun _ _ _ h => h) (Or.inr ⟨by simp [Region.wanted, yielded], rfl⟩) (by assumption) ?_
                  (try simp only [Act.put, List.getElem_toArray, List.getElem_cons_succ, List.getElem_cons_zero, List.setIfInBounds_toArray, List.set_cons_zero, List.set_cons_succ])
                  refine wpAnyH_take (i := 11) (v := undef) rfl (by kernel_rfl) (by kernel_rfl) (by kernel_rfl) (fun _ _ _ h => h) (Or.inr ⟨by simp [Region.wanted, yielded], rfl⟩) (by assumption) ?_
                  (try simp only [Act.put, List.getElem_toArray, List.getElem_cons_succ, List.getElem_cons_zero, List.setIfInBounds_toArray, List.set_cons_zero, List.set_cons_succ])
                  refine wpAnyH_take (i := 12) (v := undef) rfl (by kernel_rfl) (by kernel_rfl) (by kernel_rfl) (fun _ _ _ h => h) (Or.inr ⟨by simp [Region.wanted, yielded], rfl⟩) (by assumption) ?_
                  (try simp only [Act.put, List.getElem_toArray, List.getElem_cons_succ, List.getElem_cons_zero, List.setIfInBounds_toArray, List.set_cons_zero, List.set_cons_succ])
                  refine wpAnyH_take (i := 13) (v := undef) rfl (by kernel_rfl) (by kernel_rfl) (by kernel_rfl) (fun _ _ _ h => h) (Or.inr ⟨by simp [Region.wanted, yielded], rfl⟩) (by assumption) ?_
                  (try simp only [Act.put, List.getElem_toArray, List.getElem_cons_succ, List.getElem_cons_zero, List.setIfInBounds_toArray, List.set_cons_zero, List.set_cons_succ])
                  refine wpAnyH_take (i := 14) (v := undef) rfl (by kernel_rfl) (by kernel_rfl) (by kernel_rfl) (fun _ _ _ h => h) (Or.inr ⟨by simp [Region.wanted, yielded], rfl⟩) (by assumption) ?_
                  (try simp only [Act.put, List.getElem_toArray, List.getElem_cons_succ, List.getElem_cons_zero, List.setIfInBounds_toArray, List.set_cons_zero, List.set_cons_succ])
                  refine wpAnyH_take (i := 15) (v := undef) rfl (by kernel_rfl) (by kernel_rfl) (by kernel_rfl) (fun _ _ _ h => h) (Or.inr ⟨by simp [Region.wanted, yielded], rfl⟩) (by assumption) ?_
                  (try simp only [Act.put, List.getElem_toArray, List.getElem_cons_succ, List.getElem_cons_zero, List.setIfInBounds_toArray, List.set_cons_zero, List.set_cons_succ])
                  refine wpAnyH_take (i := 16) (v := undef) rfl (by kernel_rfl) (by kernel_rfl) (by kernel_rfl) (fun _ _ _ h => h) (Or.inr ⟨by simp [Region.wanted, yielded], rfl⟩) (by assumption) ?_
                  (try simp only [Act.put, List.getElem_toArray, List.getElem_cons_succ, List.getElem_cons_zero, List.setIfInBounds_toArray, List.set_cons_zero, List.set_cons_succ])
                  refine wpAnyH_take (i := 17) (v := undef) rfl (by kernel_rfl) (by kernel_rfl) (by kernel_rfl) (fun _ _ _ h => h) (Or.inr ⟨by simp [Region.wanted, yielded], rfl⟩) (by assumption) ?_
                  (try simp only [Act.put, List.getElem_toArray, List.getElem_cons_succ, List.getElem_cons_zero, List.setIfInBounds_toArray, List.set_cons_zero, List.set_cons_succ])
                  refine wpAnyH_take (i := 18) (v := undef) rfl (by kernel_rfl) (by kernel_rfl) (by kernel_rfl) (fun _ _ _ h => h) (Or.inr ⟨by simp [Region.wanted, yielded], rfl⟩) (by assumption) ?_
                  (try simp only [Act.put, List.getElem_toArray, List.getElem_cons_succ, List.getElem_cons_zero, List.setIfInBounds_toArray, List.set_cons_zero, List.set_cons_succ])
                  refine wpAnyH_take (i := 19) (v := undef) rfl (by kernel_rfl) (by kernel_rfl) (by kernel_rfl) (fun _ _ _ h => h) (Or.inr ⟨by simp [Region.wanted, yielded], rfl⟩) (by assumption) ?_
                  (try simp only [Act.put, List.getElem_toArray, List.getElem_cons_succ, List.getElem_cons_zero, List.setIfInBounds_toArray, List.set_cons_zero, List.set_cons_succ])
                  refine wpAnyH_take (i := 20) (v := undef) rfl (by kernel_rfl) (by kernel_rfl) (by kernel_rfl) (fun _ _ _ h => h) (Or.inr ⟨by simp [Region.wanted, yielded], rfl⟩) (by assumption) ?_
                  (try simp only [Act.put, List.getElem_toArray, List.getElem_cons_succ, List.getElem_cons_zero, List.setIfInBounds_toArray, List.set_cons_zero, List.set_cons_succ])
                  refine wpAnyH_take (i := 21) (v := ?_) rfl (by kernel_rfl) (by kernel_rfl) (by kernel_rfl) (fun _ _ _ h => h) (Or.inl ⟨by rfl, ?_⟩) (by assumption) ?_
                  rotate_left
                  · intro w hSw
                    (try dsimp only at hSw)
                    go_simp
                    (try with_reducible rfl)
                  (try simp only [Act.put, List.getElem_toArray, List.getElem_cons_succ, List.getElem_cons_zero, List.setIfInBounds_toArray, List.set_cons_zero, List.set_cons_succ])
                  refine wpAnyH_done (by kernel_rfl) ?_ _
                  clear hHeld x0 x1 y0 y1 y2 z0 z1 z2 d0 d1 d2 d3 d4
                  go_wp2_with fail
                  go_roundw
                  case rel => exact ⟨j + 1, by omega, by go_num, by rw [HKJ.out], ⟨HB1.out.os, HB1.out.tape, HB1.out.output, HB1.out.size, HB1.out.block⟩⟩
                  case measure => simp [intOf]; omega
              · obtain rfl : j = ns5 := by omega
                have hall : kA s m j = ns6 := by
                  rw [← HLN.out.2]
                  unfold kA someA
                  rw [List.take_of_length_le (by rw [HLN.out.1]; omega)]
                rw [hall]
                have HB := Lib.hid (later BW.out hb)
                clear hb hall
                go_wp2_with fail
                go_ret
                exact ⟨rfl, HB.out⟩
end Go.Proofs.Ytdjgndnllaingaa.TrW
