/-
  alluviumlaw08.TruthOnce: THE WALK. (Printed by gen/trlaw.py.)
-/
import Derived.Test.YtdjgndnllaingaaJ43
/-
  alluviumlaw08.TruthOnce: THE WALK. (Printed by gen/trlaw.py.)
-/
namespace Go.Proofs.Ytdjgndnllaingaa.TrW
set_option linter.unusedVariables false
open Go.RowKit Go.Shelf LabM LbM LabW FrW TrM
set_option maxRecDepth 100000 in
set_option maxHeartbeats 8000000 in
theorem once_walk (A : Option Addr) (n c : Nat) (os : List OpH) (A2 : Option Addr) (n2 c2 : Nat) (x : List Lab) (t v u : Int) (w : World) (hl : Ops w A n c os) (hx : Comes w 2 encL okL A2 n2 c2 x) (ht : -9223372036854775808 ≤ t ∧ t ≤ 9223372036854775807) (hv : 0 ≤ v ∧ v < 18446744073709551616) (hu : 0 ≤ u ∧ u < 18446744073709551616) :
    Calls Try.prog 6 #[.slice A n c, .slice A2 n2 c2, .int .i64 t, .int .u64 v, .int .u64 u] w fun e w' => e = .returned (.bool true) ∧ Below w.heap.size w w' := by
  have HX := Lib.hid hx
  have hle2 := hx.le
  have hcap2 : c2 ≤ 9223372036854775807 := hx.cap
  have HT := Lib.hid (And.intro ht (And.intro hv hu))
  clear hx ht hv hu
  have HL := Lib.hid hl
  have hcap : c ≤ 9223372036854775807 := hl.row.cap
  have hle := hl.row.le
  clear hl
  go_enter Try.func6, Try.ntmps6
  go_wp2_with fail
  refine (works_any w).mono ?_
  rintro e w1 ⟨rfl, hb1⟩
  have B1 := Lib.hid hb1
  clear hb1
  go_wp2_with fail
  refine (fewOps_any A n c os w1 (HL.out.later B1.out)).mono ?_
  rintro e w2 ⟨rfl, hb2⟩
  have B2 := Lib.hid (later B1.out hb2)
  clear hb2
  cases hf : fewOps os with
  | false =>
    go_wp2_with fail
    go_ret
    exact ⟨rfl, B2.out⟩
  | true =>
  have HF := Lib.hid ((fewOps_iff os).1 hf)
  have hn40 : n ≤ 40 := by have := HF.out.2; rw [HL.out.row.len] at this; exact this
  clear hf
  go_wp2_with fail
  refine (few_any A2 n2 c2 x w2 (HX.out.later B2.out)).mono ?_
  rintro e w3 ⟨rfl, hb3⟩
  have B3 := Lib.hid (later B2.out hb3)
  clear hb3
  cases hf2 : fewB x with
  | false =>
    go_wp2_with fail
    go_ret
    exact ⟨rfl, B3.out⟩
  | true =>
  have HFX := Lib.hid hf2
  clear hf2
  go_wp2_with fail
  obtain ⟨w4, hw4, hb4, hr4, hz4⟩ := one_box w3 #[.slice none 0 0, .int .i64 0] 28
  obtain ⟨g, hgg⟩ : ∃ g, w3.heap.size = g := ⟨_, rfl⟩
  have hgw : w.heap.size ≤ g := by rw [← hgg]; exact B3.out.size
  rw [hgg] at hr4
  have B4 := Lib.hid (And.intro hr4 (later B3.out hb4))
  clear hr4 hb4 hz4
  rw [hw4, hgg]
  clear hw4 hgg
  obtain ⟨l, hl⟩ : ∃ l, os.map absO = l := ⟨_, rfl⟩
  have HLL := Lib.hid hl
  have hln : l.length = n := by rw [← hl, List.length_map]; exact HL.out.row.len
  clear hl
  go_loopw [14] (fun vi wr => ∃ (k : Nat) (A' : Option Addr) (n' c' : Nat), k ≤ n ∧ vi = .int .i64 k ∧ wr.heap[g]? = some (.cells #[.slice A' n' c', .int .i64 (runM l (fun _ => 3) k).2] 28 (0, 0)) ∧ StA wr A' n' c' (runM l (fun _ => 3) k) ∧ Below w.heap.size w wr) (fun vi _ => n - (intOf vi).toNat)
  case atStart => exact ⟨0, none, 0, 0, Nat.zero_le _, rfl, B4.out.1, StA.nil _, B4.out.2⟩
  case round =>
    obtain ⟨k, A', n', c', hk, rfl, hrow, hS, hb⟩ := hrel
    by_cases hlt : k < n
    · have hkl : k < os.length := by rw [HL.out.row.len]; exact hlt
      have hkl2 : k < l.length := by omega
      obtain ⟨b, o, rfl, -, hcs⟩ := HL.out.cells hkl
      obtain ⟨d0, d1, d2, d3, d4, d5, d6⟩ := hcs _ hb
      have hok := ((HL.out.ok _ (List.getElem_mem hkl)).later hb).okO (HF.out.1 _ (List.getElem_mem hkl))
      have hst := runM_step l (fun _ => 3) k hkl2
      rw [show l[k] = absO os[k] by simp only [← HLL.out, List.getElem_map]] at hst
      generalize os[k] = x at *
      obtain ⟨kd, ⟨⟨P1, m1, q1⟩, L⟩, ⟨⟨P2, m2, q2⟩, M⟩, t0, te0, v0, g0⟩ := x
      unfold hdV at d1 d2
      have hbd : Below wr.heap.size wr wr.drew := ⟨rfl, rfl, rfl, Nat.le_refl _, fun _ _ => rfl⟩
      obtain ⟨x0, x1⟩ := row2 hrow (Below.refl _ _)
      have KD := Lib.hid (do_step (gen := 3) (hS.later hbd) (hok.later hbd) (show wr.drew.heap[g]? = _ from hrow) (later hb hbd) hgw hst.symm)
      have i0 : (0 : Int) ≤ (k : Int) := by omega
      have i1 : (k : Int) < (n : Int) := by omega
      clear hcs hok hst hbd hS hb hrow
      simp only [hdV] at KD
      go_wp2_with fail
      go_region_law
        (first
        | (go_simp
           go_at_call 11
           (with_reducible refine KD.out.mono ?_)
           rintro e w5 ⟨A9, n9, c9, AR, nr, cr, e1, e2, AS, ns, cs, s1, s2, rfl, h1, h2, ⟨⟨v1, h3⟩, h4, ⟨v2, h5⟩, h6⟩, h7, h8, h9⟩
           have HE := Lib.hid (And.intro h7 (And.intro h8 h9))
           clear h7 h8 h9))
      all_goals (
        go_wp2_with fail
        go_roundw)
      all_goals first
        | (simp [intOf]; omega)
        | exact ⟨k + 1, A9, n9, c9, by omega, by go_num, HE.out.1, HE.out.2.1, HE.out.2.2⟩
    · obtain rfl : k = n := by omega
      obtain ⟨s, hs⟩ : ∃ s, runM l (fun _ => 3) k = s := ⟨_, rfl⟩
      have HRUN := Lib.hid hs
      rw [hs] at hrow hS
      have HS := Lib.hid (And.intro hS (And.intro hrow hb))
      clear hs hrow hS hb
      obtain ⟨⟨nS, ⟨er, N, AL⟩, r⟩, hd⟩ : ∃ p, doM s ⟨0, x, [], t, 0, v, 0⟩ 3 = p := ⟨_, rfl⟩
      have honce := fun (h0 : N ≠ 0) => once HS.out.1.valid (l := x) (t := t) (v := v) (ms := []) (te := 0) (g := 0) (gen := 3) (by rw [hd]; exact h0) rfl
      rw [hd] at honce
      have HK1 := Lib.hid honce
      have HDD := Lib.hid hd
      clear honce hd
      by_cases her : er = 0
      · subst her
        by_cases hN : N = 0
        · subst hN
          have K5 := Lib.hid (do_c (gen := 3) (o := ⟨0, ((A2, n2, c2), x), ((none, 0, 0), []), t, 0, v, 0⟩) HS.out.1 (okO_of (HX.out.later HS.out.2.2) HFX.out rfl HT.out.1 (by simp) HT.out.2.1) HDD.out)
          obtain ⟨x0, x1⟩ := row2 HS.out.2.1 (Below.refl _ _)
          go_wp2_with fail
          refine K5.out.mono ?_
          rintro e w5 ⟨A5, n5, c5, AR5, nr5, cr5, AS5, ns5, cs5, rfl, h1, h2, h3, h4⟩
          obtain ⟨W5, hW5, b1, b2, b3, z5⟩ := two_boxes w5 #[.slice A5 n5 c5, .int .i64 nS.2] #[.int .i64 0, .int .i64 0, .slice AS5 ns5 cs5] 28 31
          have H5 := Lib.hid (And.intro (h1.later b1) (And.intro (h2.later b1) (And.intro (h3.later b1) (And.intro b2 (And.intro b3 (later h4 b1))))))
          clear h1 h2 h3 h4 b1 b2 b3 z5 K5
          have hb5 := H5.out.2.2.2.2.2
          obtain ⟨x0, x1⟩ := row2 HS.out.2.1 hb5
          obtain ⟨y0, y1⟩ := row2 H5.out.2.2.2.1 (Below.refl _ _)
          obtain ⟨y2, y3, y4⟩ := row3 H5.out.2.2.2.2.1 (Below.refl _ _)
          have BW := Lib.hid (later HS.out.2.2 hb5)
          clear hb5
          go_wp2_with fail
          go_ret
          exact ⟨rfl, BW.out⟩
        · skip
          have K5 := Lib.hid (do_c (gen := 3) (o := ⟨0, ((A2, n2, c2), x), ((none, 0, 0), []), t, 0, v, 0⟩) HS.out.1 (okO_of (HX.out.later HS.out.2.2) HFX.out rfl HT.out.1 (by simp) HT.out.2.1) HDD.out)
          obtain ⟨x0, x1⟩ := row2 HS.out.2.1 (Below.refl _ _)
          go_wp2_with fail
          refine K5.out.mono ?_
          rintro e w5 ⟨A5, n5, c5, AR5, nr5, cr5, AS5, ns5, cs5, rfl, h1, h2, h3, h4⟩
          obtain ⟨W5, hW5, b1, b2, b3, z5⟩ := two_boxes w5 #[.slice A5 n5 c5, .int .i64 nS.2] #[.int .i64 0, .int .i64 N, .slice AS5 ns5 cs5] 28 31
          have H5 := Lib.hid (And.intro (h1.later b1) (And.intro (h2.later b1) (And.intro (h3.later b1) (And.intro b2 (And.intro b3 (later h4 b1))))))
          clear h1 h2 h3 h4 b1 b2 b3 z5 K5
          have hb5 := H5.out.2.2.2.2.2
          obtain ⟨x0, x1⟩ := row2 HS.out.2.1 hb5
          obtain ⟨y0, y1⟩ := row2 H5.out.2.2.2.1 (Below.refl _ _)
          obtain ⟨y2, y3, y4⟩ := row3 H5.out.2.2.2.2.1 (Below.refl _ _)
          have BW := Lib.hid (later HS.out.2.2 hb5)
          clear hb5
          obtain ⟨k1, k2, k3, k4, ⟨e9, k5, k6⟩⟩ := HK1.out hN
          (try dsimp only at k1 k2 k3 k4 k6)
          have HE9 := Lib.hid k5
          have hti : t ≤ 9223372036854775807 := HT.out.1.2
          have hti0 : 0 ≤ t := k1
          by_cases huv : u = v
          · subst huv
            have HK := Lib.hid (And.intro k3 (And.intro k3 k6))
            clear k1 k2 k3 k4 k5 k6 HK1
            have K6 := Lib.hid (do_c (gen := 3) (o := ⟨0, ((A2, n2, c2), x), ((none, 0, 0), []), t, 0, u, 0⟩) H5.out.1 (okO_of (HX.out.later BW.out) HFX.out rfl HT.out.1 (by simp) HT.out.2.1) HK.out.1)
            have K7 := Lib.hid (fun (V : World) (hV : Below W5.heap.size W5 V) => do_c (gen := 3) (o := ⟨0, ((A2, n2, c2), x), ((none, 0, 0), []), t, 0, u, 0⟩) (H5.out.1.later hV) (okO_of (HX.out.later (later BW.out hV)) HFX.out rfl HT.out.1 (by simp) HT.out.2.2) HK.out.2.1)
            have K8 := Lib.hid (fun (V : World) (hV : Below W5.heap.size W5 V) => do_c (gen := 3) (o := ⟨0, ((A2, n2, c2), x), ((none, 0, 0), []), t - 1, 0, u, 0⟩) (H5.out.1.later hV) (okO_of (HX.out.later (later BW.out hV)) HFX.out rfl (show -9223372036854775808 ≤ t - 1 ∧ t - 1 ≤ 9223372036854775807 by omega) (by simp) HT.out.2.1) HK.out.2.2)
            clear HK HDD
            go_wp2_with fail
            refine K6.out.mono ?_
            rintro e w6 ⟨A6, n6, c6, AR6, nr6, cr6, AS6, ns6, cs6, rfl, h1, h2, h3, h4⟩
            obtain ⟨W6, hW6, b1, b2, b3, z6⟩ := two_boxes w6 #[.slice A6 n6 c6, .int .i64 nS.2] #[.int .i64 0, .int .i64 0, .slice AS6 ns6 cs6] 28 31
            have H6 := Lib.hid (And.intro (h1.later b1) (And.intro (h2.later b1) (And.intro (h3.later b1) (And.intro b2 (And.intro b3 (later h4 b1))))))
            clear h1 h2 h3 h4 b1 b2 b3 z6 K6
            have B6 := Lib.hid H6.out.2.2.2.2.2
            clear x0 x1 y0 y1 y2 y3 y4
            obtain ⟨x0, x1⟩ := row2 H5.out.2.2.2.1 B6.out
            go_wp2_with fail
            refine (K7.out _ B6.out).mono ?_
            rintro e w7 ⟨A7, n7, c7, AR7, nr7, cr7, AS7, ns7, cs7, rfl, h1, h2, h3, h4⟩
            obtain ⟨W7, hW7, b1, b2, b3, z7⟩ := two_boxes w7 #[.slice A7 n7 c7, .int .i64 nS.2] #[.int .i64 0, .int .i64 0, .slice AS7 ns7 cs7] 28 31
            have H7 := Lib.hid (And.intro (h1.later b1) (And.intro (h2.later b1) (And.intro (h3.later b1) (And.intro b2 (And.intro b3 (later h4 b1))))))
            clear h1 h2 h3 h4 b1 b2 b3 z7 K7
            have B7 := Lib.hid (later B6.out H7.out.2.2.2.2.2)
            clear x0 x1
            obtain ⟨x0, x1⟩ := row2 H5.out.2.2.2.1 B7.out
            go_wp2_with fail
            refine (K8.out _ B7.out).mono ?_
            rintro e w8 ⟨A8, n8, c8, AR8, nr8, cr8, AS8, ns8, cs8, rfl, h1, h2, h3, h4⟩
            obtain ⟨W8, hW8, b1, b2, b3, z8⟩ := two_boxes w8 #[.slice A8 n8 c8, .int .i64 nS.2] #[.int .i64 e9, .int .i64 0, .slice AS8 ns8 cs8] 28 31
            have H8 := Lib.hid (And.intro (h1.later b1) (And.intro (h2.later b1) (And.intro (h3.later b1) (And.intro b2 (And.intro b3 (later h4 b1))))))
            clear h1 h2 h3 h4 b1 b2 b3 z8 K8
            have B8 := Lib.hid (later B7.out H8.out.2.2.2.2.2)
            have hs6 : nr6 = 0 := H6.out.2.1.len.symm
            have hs7 : nr7 = 0 := H7.out.2.1.len.symm
            have hs8 : nr8 = 0 := H8.out.2.1.len.symm
            clear x0 x1
            obtain ⟨y0, y1, y2⟩ := row3 H6.out.2.2.2.2.1 (later H7.out.2.2.2.2.2 H8.out.2.2.2.2.2)
            obtain ⟨z0, z1, z2⟩ := row3 H7.out.2.2.2.2.1 H8.out.2.2.2.2.2
            obtain ⟨u0, u1, u2⟩ := row3 H8.out.2.2.2.2.1 (Below.refl _ _)
            have hk6 : (e9 != 0) = true := by simp [HE9.out]
            have BE := Lib.hid (later BW.out B8.out)
            clear H5 H6 H7 H8
            go_wp2_with fail
            go_ret
            exact ⟨rfl, BE.out⟩
          · have HK := Lib.hid (And.intro k3 (And.intro (k4 u huv) k6))
            clear k1 k2 k3 k4 k5 k6 HK1
            have K6 := Lib.hid (do_c (gen := 3) (o := ⟨0, ((A2, n2, c2), x), ((none, 0, 0), []), t, 0, v, 0⟩) H5.out.1 (okO_of (HX.out.later BW.out) HFX.out rfl HT.out.1 (by simp) HT.out.2.1) HK.out.1)
            have K7 := Lib.hid (fun (V : World) (hV : Below W5.heap.size W5 V) => do_c (gen := 3) (o := ⟨0, ((A2, n2, c2), x), ((none, 0, 0), []), t, 0, u, 0⟩) (H5.out.1.later hV) (okO_of (HX.out.later (later BW.out hV)) HFX.out rfl HT.out.1 (by simp) HT.out.2.2) HK.out.2.1)
            have K8 := Lib.hid (fun (V : World) (hV : Below W5.heap.size W5 V) => do_c (gen := 3) (o := ⟨0, ((A2, n2, c2), x), ((none, 0, 0), []), t - 1, 0, v, 0⟩) (H5.out.1.later hV) (okO_of (HX.out.later (later BW.out hV)) HFX.out rfl (show -9223372036854775808 ≤ t - 1 ∧ t - 1 ≤ 9223372036854775807 by omega) (by simp) HT.out.2.1) HK.out.2.2)
            clear HK HDD
            go_wp2_with fail
            refine K6.out.mono ?_
            rintro e w6 ⟨A6, n6, c6, AR6, nr6, cr6, AS6, ns6, cs6, rfl, h1, h2, h3, h4⟩
            obtain ⟨W6, hW6, b1, b2, b3, z6⟩ := two_boxes w6 #[.slice A6 n6 c6, .int .i64 nS.2] #[.int .i64 0, .int .i64 0, .slice AS6 ns6 cs6] 28 31
            have H6 := Lib.hid (And.intro (h1.later b1) (And.intro (h2.later b1) (And.intro (h3.later b1) (And.intro b2 (And.intro b3 (later h4 b1))))))
            clear h1 h2 h3 h4 b1 b2 b3 z6 K6
            have B6 := Lib.hid H6.out.2.2.2.2.2
            clear x0 x1 y0 y1 y2 y3 y4
            obtain ⟨x0, x1⟩ := row2 H5.out.2.2.2.1 B6.out
            go_wp2_with fail
            refine (K7.out _ B6.out).mono ?_
            rintro e w7 ⟨A7, n7, c7, AR7, nr7, cr7, AS7, ns7, cs7, rfl, h1, h2, h3, h4⟩
            obtain ⟨W7, hW7, b1, b2, b3, z7⟩ := two_boxes w7 #[.slice A7 n7 c7, .int .i64 nS.2] #[.int .i64 5, .int .i64 0, .slice AS7 ns7 cs7] 28 31
            have H7 := Lib.hid (And.intro (h1.later b1) (And.intro (h2.later b1) (And.intro (h3.later b1) (And.intro b2 (And.intro b3 (later h4 b1))))))
            clear h1 h2 h3 h4 b1 b2 b3 z7 K7
            have B7 := Lib.hid (later B6.out H7.out.2.2.2.2.2)
            clear x0 x1
            obtain ⟨x0, x1⟩ := row2 H5.out.2.2.2.1 B7.out
            go_wp2_with fail
            refine (K8.out _ B7.out).mono ?_
            rintro e w8 ⟨A8, n8, c8, AR8, nr8, cr8, AS8, ns8, cs8, rfl, h1, h2, h3, h4⟩
            obtain ⟨W8, hW8, b1, b2, b3, z8⟩ := two_boxes w8 #[.slice A8 n8 c8, .int .i64 nS.2] #[.int .i64 e9, .int .i64 0, .slice AS8 ns8 cs8] 28 31
            have H8 := Lib.hid (And.intro (h1.later b1) (And.intro (h2.later b1) (And.intro (h3.later b1) (And.intro b2 (And.intro b3 (later h4 b1))))))
            clear h1 h2 h3 h4 b1 b2 b3 z8 K8
            have B8 := Lib.hid (later B7.out H8.out.2.2.2.2.2)
            have hs6 : nr6 = 0 := H6.out.2.1.len.symm
            have hs7 : nr7 = 0 := H7.out.2.1.len.symm
            have hs8 : nr8 = 0 := H8.out.2.1.len.symm
            clear x0 x1
            obtain ⟨y0, y1, y2⟩ := row3 H6.out.2.2.2.2.1 (later H7.out.2.2.2.2.2 H8.out.2.2.2.2.2)
            obtain ⟨z0, z1, z2⟩ := row3 H7.out.2.2.2.2.1 H8.out.2.2.2.2.2
            obtain ⟨u0, u1, u2⟩ := row3 H8.out.2.2.2.2.1 (Below.refl _ _)
            have hk6 : (e9 != 0) = true := by simp [HE9.out]
            have BE := Lib.hid (later BW.out B8.out)
            clear H5 H6 H7 H8
            go_wp2_with fail
            go_ret
            exact ⟨rfl, BE.out⟩
      · skip
        have K5 := Lib.hid (do_c (gen := 3) (o := ⟨0, ((A2, n2, c2), x), ((none, 0, 0), []), t, 0, v, 0⟩) HS.out.1 (okO_of (HX.out.later HS.out.2.2) HFX.out rfl HT.out.1 (by simp) HT.out.2.1) HDD.out)
        obtain ⟨x0, x1⟩ := row2 HS.out.2.1 (Below.refl _ _)
        go_wp2_with fail
        refine K5.out.mono ?_
        rintro e w5 ⟨A5, n5, c5, AR5, nr5, cr5, AS5, ns5, cs5, rfl, h1, h2, h3, h4⟩
        obtain ⟨W5, hW5, b1, b2, b3, z5⟩ := two_boxes w5 #[.slice A5 n5 c5, .int .i64 nS.2] #[.int .i64 er, .int .i64 N, .slice AS5 ns5 cs5] 28 31
        have H5 := Lib.hid (And.intro (h1.later b1) (And.intro (h2.later b1) (And.intro (h3.later b1) (And.intro b2 (And.intro b3 (later h4 b1))))))
        clear h1 h2 h3 h4 b1 b2 b3 z5 K5
        have hb5 := H5.out.2.2.2.2.2
        obtain ⟨x0, x1⟩ := row2 HS.out.2.1 hb5
        obtain ⟨y0, y1⟩ := row2 H5.out.2.2.2.1 (Below.refl _ _)
        obtain ⟨y2, y3, y4⟩ := row3 H5.out.2.2.2.2.1 (Below.refl _ _)
        have BW := Lib.hid (later HS.out.2.2 hb5)
        clear hb5
        go_wp2_with fail
        go_ret
        exact ⟨rfl, BW.out⟩
end Go.Proofs.Ytdjgndnllaingaa.TrW
