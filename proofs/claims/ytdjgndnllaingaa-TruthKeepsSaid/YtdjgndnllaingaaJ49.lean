/-
  alluviumlaw08.TruthKeeps: THE WALK. (Printed by gen/trlaw.py.)
  ALL SERIES: THE PLAIN LAW OF WHAT IS ASKED FOR.
-/
import Derived.Test.YtdjgndnllaingaaJ43
import Derived.Test.YtdjgndnllaingaaJ44
/-
  alluviumlaw08.TruthKeeps: THE WALK. (Printed by gen/trlaw.py.)
-/
namespace Go.Proofs.Ytdjgndnllaingaa.TrW
set_option linter.unusedVariables false
open Go.RowKit Go.Shelf LabM LbM LabW FrW TrM
set_option maxRecDepth 100000 in
set_option maxHeartbeats 8000000 in
theorem keeps_walk (A : Option Addr) (n c : Nat) (os : List OpH) (t : Int) (A2 : Option Addr) (n2 c2 : Nat) (x : List Lab) (w : World) (hl : Ops w A n c os) (hx : Comes w 2 encL okL A2 n2 c2 x) (ht : -9223372036854775808 ≤ t ∧ t ≤ 9223372036854775807) :
    Calls Try.prog 8 #[.slice A n c, .int .i64 t, .slice A2 n2 c2] w fun e w' => e = .returned (.bool true) ∧ Below w.heap.size w w' := by
  have HX := Lib.hid hx
  have hle2 := hx.le
  have hcap2 : c2 ≤ 9223372036854775807 := hx.cap
  clear hx
  have HL := Lib.hid hl
  have hcap : c ≤ 9223372036854775807 := hl.row.cap
  have hle := hl.row.le
  clear hl
  go_enter Try.func8, Try.ntmps8
  go_wp2_with fail
  refine (works_any w).mono ?_
  rintro e w1 ⟨rfl, hb1⟩
  have B1 := Lib.hid hb1
  clear hb1
  go_wp2_with fail
  refine (fewOps_any A n c os w1 (HL.out.later B1.out)).mono ?_
  rintro e w2 ⟨rfl, hb2⟩
  have B2 := Lib.hid (later B1.out hb2)
  clear hb2
  cases hf : fewOps os with
  | false =>
    go_wp2_with fail
    go_ret
    exact ⟨rfl, B2.out⟩
  | true =>
  have HF := Lib.hid ((fewOps_iff os).1 hf)
  have hn40 : n ≤ 40 := by have := HF.out.2; rw [HL.out.row.len] at this; exact this
  clear hf
  go_wp2_with fail
  refine (few_any A2 n2 c2 x w2 (HX.out.later B2.out)).mono ?_
  rintro e w3 ⟨rfl, hb3⟩
  have B3 := Lib.hid (later B2.out hb3)
  clear hb3
  cases hf2 : fewB x with
  | false =>
    go_wp2_with fail
    go_ret
    exact ⟨rfl, B3.out⟩
  | true =>
  have HFX := Lib.hid hf2
  clear hf2
  go_wp2_with fail
  obtain ⟨w4, hw4, hb4, hr4, hz4⟩ := one_box w3 #[.slice none 0 0, .int .i64 0] 28
  obtain ⟨g, hgg⟩ : ∃ g, w3.heap.size = g := ⟨_, rfl⟩
  have hgw : w.heap.size ≤ g := by rw [← hgg]; exact B3.out.size
  rw [hgg] at hr4
  have B4 := Lib.hid (And.intro hr4 (later B3.out hb4))
  clear hr4 hb4 hz4
  rw [hw4, hgg]
  clear hw4 hgg
  obtain ⟨l, hl⟩ : ∃ l, os.map absO = l := ⟨_, rfl⟩
  have HLL := Lib.hid hl
  have hln : l.length = n := by rw [← hl, List.length_map]; exact HL.out.row.len
  clear hl
  go_loopw [10] (fun vi wr => ∃ (k : Nat) (A' : Option Addr) (n' c' : Nat), k ≤ n ∧ vi = .int .i64 k ∧ wr.heap[g]? = some (.cells #[.slice A' n' c', .int .i64 (runM l (fun _ => 3) k).2] 28 (0, 0)) ∧ StA wr A' n' c' (runM l (fun _ => 3) k) ∧ Below w.heap.size w wr) (fun vi _ => n - (intOf vi).toNat)
  case atStart => exact ⟨0, none, 0, 0, Nat.zero_le _, rfl, B4.out.1, StA.nil _, B4.out.2⟩
  case round =>
    obtain ⟨k, A', n', c', hk, rfl, hrow, hS, hb⟩ := hrel
    by_cases hlt : k < n
    · have hkl : k < os.length := by rw [HL.out.row.len]; exact hlt
      have hkl2 : k < l.length := by omega
      obtain ⟨b, o, rfl, -, hcs⟩ := HL.out.cells hkl
      obtain ⟨d0, d1, d2, d3, d4, d5, d6⟩ := hcs _ hb
      have hok := ((HL.out.ok _ (List.getElem_mem hkl)).later hb).okO (HF.out.1 _ (List.getElem_mem hkl))
      have hst := runM_step l (fun _ => 3) k hkl2
      rw [show l[k] = absO os[k] by simp only [← HLL.out, List.getElem_map]] at hst
      generalize os[k] = x at *
      obtain ⟨kd, ⟨⟨P1, m1, q1⟩, L⟩, ⟨⟨P2, m2, q2⟩, M⟩, t0, te0, v0, g0⟩ := x
      unfold hdV at d1 d2
      have hbd : Below wr.heap.size wr wr.drew := ⟨rfl, rfl, rfl, Nat.le_refl _, fun _ _ => rfl⟩
      obtain ⟨x0, x1⟩ := row2 hrow (Below.refl _ _)
      have KD := Lib.hid (do_step (gen := 3) (hS.later hbd) (hok.later hbd) (show wr.drew.heap[g]? = _ from hrow) (later hb hbd) hgw hst.symm)
      have i0 : (0 : Int) ≤ (k : Int) := by omega
      have i1 : (k : Int) < (n : Int) := by omega
      clear hcs hok hst hbd hS hb hrow
      simp only [hdV] at KD
      go_wp2_with fail
      go_region_law
        (first
        | (go_simp
           go_at_call 11
           (with_reducible refine KD.out.mono ?_)
           rintro e w5 ⟨A9, n9, c9, AR, nr, cr, e1, e2, AS, ns, cs, s1, s2, rfl, h1, h2, ⟨⟨v1, h3⟩, h4, ⟨v2, h5⟩, h6⟩, h7, h8, h9⟩
           have HE := Lib.hid (And.intro h7 (And.intro h8 h9))
           clear h7 h8 h9))
      all_goals (
        go_wp2_with fail
        go_roundw)
      all_goals first
        | (simp [intOf]; omega)
        | exact ⟨k + 1, A9, n9, c9, by omega, by go_num, HE.out.1, HE.out.2.1, HE.out.2.2⟩
    · obtain rfl : k = n := by omega
      obtain ⟨s, hs⟩ : ∃ s, runM l (fun _ => 3) k = s := ⟨_, rfl⟩
      have HRUN := Lib.hid hs
      rw [hs] at hrow hS
      have HS := Lib.hid (And.intro hS (And.intro hrow hb))
      clear hs hrow hS hb
      have few0 : fewB [] = true := by decide
      obtain ⟨⟨nS, ⟨er, N, AL⟩, r⟩, hd⟩ : ∃ p, doM s ⟨2, [], [], t, 0, 0, 0⟩ 3 = p := ⟨_, rfl⟩
      have hkeep := fun (h0 : er = 0) (h1 : t ≠ 0) => keeps (gen := 3) HS.out.1.valid x (by rw [hd]; exact h0) h1
      have htold := told HS.out.1.valid ⟨2, [], [], t, 0, 0, 0⟩ 3
      rw [hd] at hkeep htold
      have hsame : er ≠ 0 → nS = s := fun h => htold.same (.inl h)
      have HK := Lib.hid (And.intro hkeep hsame)
      have HT := Lib.hid ht
      have HDD := Lib.hid hd
      clear hkeep htold hsame hd ht
      by_cases her : er = 0
      · subst her
        have K5 := Lib.hid (do_c (gen := 3) (o := ⟨2, ((none, 0, 0), []), ((none, 0, 0), []), t, 0, 0, 0⟩) HS.out.1 (okO_of (Comes.nil _ _ _ _) few0 rfl HT.out (by simp) (by simp)) HDD.out)
        obtain ⟨x0, x1⟩ := row2 HS.out.2.1 (Below.refl _ _)
        go_wp2_with fail
        refine K5.out.mono ?_
        rintro e w5 ⟨A5, n5, c5, AR5, nr5, cr5, AS5, ns5, cs5, rfl, h1, h2, h3, h4⟩
        obtain ⟨W5, hW5, b1, b2, b3, z5⟩ := two_boxes w5 #[.slice A5 n5 c5, .int .i64 nS.2] #[.int .i64 0, .int .i64 N, .slice AS5 ns5 cs5] 28 31
        have H5 := Lib.hid (And.intro (h1.later b1) (And.intro (h2.later b1) (And.intro (h3.later b1) (And.intro b2 (And.intro b3 (later h4 b1))))))
        clear h1 h2 h3 h4 b1 b2 b3 z5 K5
        have hb5 := H5.out.2.2.2.2.2
        obtain ⟨x0, x1⟩ := row2 HS.out.2.1 hb5
        obtain ⟨y0, y1⟩ := row2 H5.out.2.2.2.1 (Below.refl _ _)
        obtain ⟨y2, y3, y4⟩ := row3 H5.out.2.2.2.2.1 (Below.refl _ _)
        have BW := Lib.hid (later HS.out.2.2 hb5)
        clear hb5
        by_cases ht0 : t = 0
        · go_wp2_with fail
          go_ret
          exact ⟨rfl, BW.out⟩
        · obtain ⟨k1, k2, k3, k4, k5, ⟨e9, k6, k7⟩⟩ := HK.out.1 (by trivial) ht0
          (try dsimp only at k2 k3 k4 k5 k7)
          obtain ⟨⟨S6, ⟨er6, N6, l6⟩, r6⟩, hd6⟩ : ∃ p, doM nS ⟨3, [], [], 0, t - 1, 0, 0⟩ 3 = p := ⟨_, rfl⟩
          obtain ⟨⟨S7, ⟨er7, N7, l7⟩, r7⟩, hd7⟩ : ∃ p, doM s ⟨3, [], [], t, maxT, 0, 0⟩ 3 = p := ⟨_, rfl⟩
          obtain ⟨⟨S8, a8, r8⟩, hd8⟩ : ∃ p, doM nS ⟨3, [], [], t, maxT, 0, 0⟩ 3 = p := ⟨_, rfl⟩
          rw [hd6] at k4
          rw [hd7, hd8] at k5
          obtain rfl : l6 = [] := k4
          obtain rfl : (er7, N7, l7) = a8 := k5
          have HFL := Lib.hid k3
          have h1t : 1 ≤ t := k1
          have hti : t ≤ 9223372036854775807 := HT.out.2
          have K6 := Lib.hid (do_c (gen := 3) (o := ⟨3, ((none, 0, 0), []), ((none, 0, 0), []), 0, t - 1, 0, 0⟩) H5.out.1 (okO_of (Comes.nil _ _ _ _) few0 rfl (by simp) (show -9223372036854775808 ≤ t - 1 ∧ t - 1 ≤ 9223372036854775807 by omega) (by simp)) hd6)
          have K7 := Lib.hid (fun (V : World) (hV : Below W5.heap.size W5 V) => do_c (gen := 3) (o := ⟨3, ((none, 0, 0), []), ((none, 0, 0), []), t, maxT, 0, 0⟩) (HS.out.1.later (later H5.out.2.2.2.2.2 hV)) (okO_of (Comes.nil _ _ _ _) few0 rfl HT.out (by show -9223372036854775808 ≤ maxT ∧ maxT ≤ 9223372036854775807; decide) (by simp)) hd7)
          have K8 := Lib.hid (fun (V : World) (hV : Below W5.heap.size W5 V) => do_c (gen := 3) (o := ⟨3, ((none, 0, 0), []), ((none, 0, 0), []), t, maxT, 0, 0⟩) (H5.out.1.later hV) (okO_of (Comes.nil _ _ _ _) few0 rfl HT.out (by show -9223372036854775808 ≤ maxT ∧ maxT ≤ 9223372036854775807; decide) (by simp)) hd8)
          have K9 := Lib.hid (fun (V : World) (hV : Below W5.heap.size W5 V) => do_c (gen := 3) (o := ⟨0, ((A2, n2, c2), x), ((none, 0, 0), []), t - 1, 0, 0, 0⟩) (H5.out.1.later hV) (okO_of (HX.out.later (later BW.out hV)) HFX.out rfl (show -9223372036854775808 ≤ t - 1 ∧ t - 1 ≤ 9223372036854775807 by omega) (by simp) (by simp)) k7)
          have hmx : maxT = 1125899906842624 := rfl
          rw [hmx] at K7 K8
          clear hd6 hd7 hd8 k1 k2 k3 k7 hmx HK HDD
          go_wp2_with fail
          refine K6.out.mono ?_
          rintro e w6 ⟨A6, n6, c6, AR6, nr6, cr6, AS6, ns6, cs6, rfl, h1, h2, h3, h4⟩
          obtain ⟨W6, hW6, b1, b2, b3, z6⟩ := two_boxes w6 #[.slice A6 n6 c6, .int .i64 S6.2] #[.int .i64 er6, .int .i64 N6, .slice AS6 ns6 cs6] 28 31
          have H6 := Lib.hid (And.intro (h1.later b1) (And.intro (h2.later b1) (And.intro (h3.later b1) (And.intro b2 (And.intro b3 (later h4 b1))))))
          clear h1 h2 h3 h4 b1 b2 b3 z6 K6
          have B6 := Lib.hid H6.out.2.2.2.2.2
          clear x0 x1 y0 y1 y2 y3 y4
          obtain ⟨x0, x1⟩ := row2 HS.out.2.1 (later H5.out.2.2.2.2.2 B6.out)
          go_wp2_with fail
          refine (K7.out _ B6.out).mono ?_
          rintro e w7 ⟨A7, n7, c7, AR7, nr7, cr7, AS7, ns7, cs7, rfl, h1, h2, h3, h4⟩
          obtain ⟨W7, hW7, b1, b2, b3, z7⟩ := two_boxes w7 #[.slice A7 n7 c7, .int .i64 S7.2] #[.int .i64 er7, .int .i64 N7, .slice AS7 ns7 cs7] 28 31
          have H7 := Lib.hid (And.intro (h1.later b1) (And.intro (h2.later b1) (And.intro (h3.later b1) (And.intro b2 (And.intro b3 (later h4 b1))))))
          clear h1 h2 h3 h4 b1 b2 b3 z7 K7
          have B7 := Lib.hid (later B6.out H7.out.2.2.2.2.2)
          clear x0 x1
          obtain ⟨x0, x1⟩ := row2 H5.out.2.2.2.1 B7.out
          go_wp2_with fail
          refine (K8.out _ B7.out).mono ?_
          rintro e w8 ⟨A8, n8, c8, AR8, nr8, cr8, AS8, ns8, cs8, rfl, h1, h2, h3, h4⟩
          obtain ⟨W8, hW8, b1, b2, b3, z8⟩ := two_boxes w8 #[.slice A8 n8 c8, .int .i64 S8.2] #[.int .i64 er7, .int .i64 N7, .slice AS8 ns8 cs8] 28 31
          have H8 := Lib.hid (And.intro (h1.later b1) (And.intro (h2.later b1) (And.intro (h3.later b1) (And.intro b2 (And.intro b3 (later h4 b1))))))
          clear h1 h2 h3 h4 b1 b2 b3 z8 K8
          have B8 := Lib.hid (later B7.out H8.out.2.2.2.2.2)
          clear x0 x1
          obtain ⟨x0, x1⟩ := row2 H5.out.2.2.2.1 B8.out
          go_wp2_with fail
          refine (K9.out _ B8.out).mono ?_
          rintro e w9 ⟨A9, n9, c9, AR9, nr9, cr9, AS9, ns9, cs9, rfl, h1, h2, h3, h4⟩
          obtain ⟨W9, hW9, b1, b2, b3, z9⟩ := two_boxes w9 #[.slice A9 n9 c9, .int .i64 nS.2] #[.int .i64 e9, .int .i64 0, .slice AS9 ns9 cs9] 28 31
          have H9 := Lib.hid (And.intro (h1.later b1) (And.intro (h2.later b1) (And.intro (h3.later b1) (And.intro b2 (And.intro b3 (later h4 b1))))))
          clear h1 h2 h3 h4 b1 b2 b3 z9 K9
          have B9 := Lib.hid (later B8.out H9.out.2.2.2.2.2)
          have hs6 : ns6 = 0 := H6.out.2.2.1.len.symm
          have hs9 : nr9 = 0 := H9.out.2.1.len.symm
          have hfl := HFL.out
          have b69 := Lib.hid (later H7.out.2.2.2.2.2 (later H8.out.2.2.2.2.2 H9.out.2.2.2.2.2))
          have b79 := Lib.hid (later H8.out.2.2.2.2.2 H9.out.2.2.2.2.2)
          have b89 := Lib.hid H9.out.2.2.2.2.2
          clear x0 x1
          obtain ⟨x0, x1⟩ := row2 H5.out.2.2.2.1 B9.out
          obtain ⟨y0, y1, y2⟩ := row3 H6.out.2.2.2.2.1 b69.out
          obtain ⟨z0, z1, z2⟩ := row3 H7.out.2.2.2.2.1 b79.out
          obtain ⟨u0, u1, u2⟩ := row3 H8.out.2.2.2.2.1 b89.out
          have hk6 : (e9 != 0) = true := by simp [k6]
          have KA := Lib.hid (answers_yes (e := er7) (N := N7) (H7.out.2.2.1.later b79.out) (H8.out.2.2.1.later b89.out))
          have HY := Lib.hid (fun (V : World) (hV : Below W9.heap.size W9 V) => And.intro (row2 H5.out.2.2.2.1 (later B9.out hV)) (row3 H9.out.2.2.2.2.1 hV))
          have BE := Lib.hid (later BW.out B9.out)
          clear H5 H6 H7 H8 H9
          go_wp2_with fail
          refine KA.out.mono ?_
          rintro e w10 ⟨rfl, hb10⟩
          have B10 := Lib.hid hb10
          clear hb10 x0 x1 y0 y1 y2 z0 z1 z2 u0 u1 u2 KA
          obtain ⟨⟨x0, x1⟩, y0, y1, y2⟩ := HY.out _ B10.out
          go_wp2_with fail
          go_ret
          exact ⟨rfl, later BE.out B10.out⟩
      · skip
        have K5 := Lib.hid (do_c (gen := 3) (o := ⟨2, ((none, 0, 0), []), ((none, 0, 0), []), t, 0, 0, 0⟩) HS.out.1 (okO_of (Comes.nil _ _ _ _) few0 rfl HT.out (by simp) (by simp)) HDD.out)
        obtain ⟨x0, x1⟩ := row2 HS.out.2.1 (Below.refl _ _)
        go_wp2_with fail
        refine K5.out.mono ?_
        rintro e w5 ⟨A5, n5, c5, AR5, nr5, cr5, AS5, ns5, cs5, rfl, h1, h2, h3, h4⟩
        obtain ⟨W5, hW5, b1, b2, b3, z5⟩ := two_boxes w5 #[.slice A5 n5 c5, .int .i64 nS.2] #[.int .i64 er, .int .i64 N, .slice AS5 ns5 cs5] 28 31
        have H5 := Lib.hid (And.intro (h1.later b1) (And.intro (h2.later b1) (And.intro (h3.later b1) (And.intro b2 (And.intro b3 (later h4 b1))))))
        clear h1 h2 h3 h4 b1 b2 b3 z5 K5
        have hb5 := H5.out.2.2.2.2.2
        obtain ⟨x0, x1⟩ := row2 HS.out.2.1 hb5
        obtain ⟨y0, y1⟩ := row2 H5.out.2.2.2.1 (Below.refl _ _)
        obtain ⟨y2, y3, y4⟩ := row3 H5.out.2.2.2.2.1 (Below.refl _ _)
        have BW := Lib.hid (later HS.out.2.2 hb5)
        clear hb5
        have hsm := HK.out.2 her
        have KS := Lib.hid (same_c H5.out.1 (HS.out.1.later H5.out.2.2.2.2.2))
        rw [decide_eq_true hsm] at KS
        clear hsm
        go_wp2_with fail
        refine KS.out.mono ?_
        rintro e w6 ⟨rfl, hb6⟩
        have B6 := Lib.hid (later BW.out hb6)
        clear hb6
        go_wp2_with fail
        go_ret
        exact ⟨rfl, B6.out⟩
end Go.Proofs.Ytdjgndnllaingaa.TrW
/-
  ALL SERIES: THE PLAIN LAW OF WHAT IS ASKED FOR.
-/
namespace Go.Proofs.Ytdjgndnllaingaa.TrM
set_option linter.unusedVariables false
open LabM LbM LabW FrW
def neB (x : Ser) : Bool := decide (0 < x.2.1.length)
def cutA (x : Ser) : Ser := (x.1, x.2.1, 0)
def allA (s : St) : List Ser := (s.1.filter neB).map cutA
def someA (s : St) (m : List Mat) : List Ser := (allA s).filter (fun y => allB m y.1)
def kA (s : St) (m : List Mat) (i : Nat) : Nat := (((allA s).take i).filter (fun y => allB m y.1)).length
theorem asks_all {s : St} (hv : Valid s) (gen : Int) : doM s ⟨3, [], [], 0, maxT, 0, 0⟩ gen = (s, (0, 0, allA s), []) := by
  rw [ask_all hv [] gen check_nil]
  rfl
theorem asks_some {s : St} (hv : Valid s) {m : List Mat} (gen : Int) (hm : checkMB m = true) : doM s ⟨3, [], m, 0, maxT, 0, 0⟩ gen = (s, (0, 0, someA s m), []) := by
  rw [ask_all hv m gen hm]
  congr 4
  unfold someA allA
  rw [List.filter_map, List.filter_filter]
  rfl
theorem asks_none {s : St} {m : List Mat} (gen : Int) (hm : checkMB m = false) : doM s ⟨3, [], m, 0, maxT, 0, 0⟩ gen = (s, (1, 0, []), []) := by
  rw [do_ask rfl, if_pos]
  unfold askedB
  rw [show checkMB (⟨3, [], m, 0, maxT, 0, 0⟩ : Op).ms = false from hm, Bool.false_and]
theorem allA_len (s : St) : (allA s).length = (s.1.filter neB).length := by unfold allA; rw [List.length_map]
theorem allA_le {s : St} (hv : Valid s) : (allA s).length ≤ 20 := by
  rw [allA_len]; exact Nat.le_trans (List.length_filter_le ..) hv.len
theorem allA_few {s : St} (hv : Valid s) : ∀ y ∈ allA s, fewB y.1 = true := by
  intro y hy
  unfold allA at hy
  obtain ⟨x, hx, rfl⟩ := List.mem_map.1 hy
  exact TrW.few_of_check (hv.right x (List.mem_filter.1 hx).1).lab
theorem all_at {s : St} (hv : Valid s) {y : Ser} (hy : y ∈ allA s) : ∃ j, ∃ hj : j < s.1.length, findI s.1 y.1 = (j : Int) ∧ s.1[j].2.1 = y.2.1 ∧ 0 < y.2.1.length ∧ ∀ z ∈ y.2.1, s.2 ≤ z.1 := by
  unfold allA at hy
  obtain ⟨x, hx, rfl⟩ := List.mem_map.1 hy
  obtain ⟨hx1, hx2⟩ := List.mem_filter.1 hx
  obtain ⟨j, hj, rfl⟩ := List.getElem_of_mem hx1
  refine ⟨j, hj, ?_, rfl, of_decide_eq_true hx2, fun z hz => ((hv.right _ hx1).ins z hz).1⟩
  unfold findI
  rw [show fnd s.1 (cutA s.1[j]).1 = some j from fnd_mem hv hj]
theorem all_ord {s : St} (hv : Valid s) {i j : Nat} (hi : i < (allA s).length) (hj : j < (allA s).length) (h : i < j) : (allA s)[i].1 ≠ (allA s)[j].1 := by
  have ho : (allA s).Pairwise (fun x y => lessL x.1 y.1 = true) := by
    unfold allA
    rw [List.pairwise_map]
    exact (hv.ord.filter _).imp (fun h => h)
  rw [List.pairwise_iff_getElem] at ho
  have := ho i j hi hj h
  intro e
  rw [e, lessL_irrefl] at this
  cases this
theorem find_one (x : Ser) (L : List Lab) : findI [x] L = if x.1 = L then 0 else -1 := by
  unfold findI fnd
  rw [List.findIdx?_cons]
  by_cases h : x.1 = L
  · rw [if_pos h, decide_eq_true h]; rfl
  · rw [if_neg h, decide_eq_false h]; rfl
/-- Is the next one that fits this one? -/
theorem asks_step {s : St} (hv : Valid s) (m : List Mat) {i : Nat} (hi : i < (allA s).length) :
    ((allB m (allA s)[i].1 = true → ∃ h : kA s m i < (someA s m).length, findI [(someA s m)[kA s m i]] (allA s)[i].1 = 0) ∧ (allB m (allA s)[i].1 = false → ∀ h : kA s m i < (someA s m).length, findI [(someA s m)[kA s m i]] (allA s)[i].1 = -1)) ∧
      kA s m (i + 1) = kA s m i + if allB m (allA s)[i].1 = true then 1 else 0 := by
  obtain ⟨h1, h2⟩ := next_fit (fun y : Ser => allB m y.1) (allA s) i hi
  refine ⟨⟨fun h => ?_, fun h hk => ?_⟩, fit_take _ _ i hi⟩
  · obtain ⟨h3, h4⟩ := h1 h
    refine ⟨h3, ?_⟩
    rw [find_one]; exact if_pos (congrArg (fun z : Ser => z.1) h4)
  · obtain ⟨j, hj, hij, h4⟩ := h2 h hk
    rw [find_one]
    exact if_neg (fun e => all_ord hv hi hj hij (e.symm.trans (congrArg (fun z : Ser => z.1) h4)))
theorem count_step (l : List Ser) (i : Nat) (hi : i < l.length) : ((l.take (i + 1)).filter neB).length = ((l.take i).filter neB).length + if 0 < l[i].2.1.length then 1 else 0 := by
  rw [fit_take neB l i hi]
  unfold neB
  by_cases h : 0 < l[i].2.1.length <;> simp [h]
end Go.Proofs.Ytdjgndnllaingaa.TrM
