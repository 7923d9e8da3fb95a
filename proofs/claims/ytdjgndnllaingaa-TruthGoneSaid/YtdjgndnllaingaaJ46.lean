/-
  alluviumlaw08.TruthRises: THE WALK. (Printed by gen/trlaw.py.)
-/
import Derived.Test.YtdjgndnllaingaaJ44
import Derived.Deep.RegionHeld3
/-
  alluviumlaw08.TruthRises: THE WALK. (Printed by gen/trlaw.py.)
-/
namespace Go.Proofs.Ytdjgndnllaingaa.TrW
set_option linter.unusedVariables false
open Go.RowKit Go.Shelf LabM LbM LabW FrW TrM
set_option maxRecDepth 100000 in
set_option maxHeartbeats 8000000 in
theorem rises_walk (A : Option Addr) (n c : Nat) (os : List OpH) (t0' : Int) (w : World) (hl : Ops w A n c os) (ht : -9223372036854775808 ≤ t0' ∧ t0' ≤ 9223372036854775807) :
    Calls Try.prog 5 #[.slice A n c, .int .i64 t0'] w fun e w' => e = .returned (.bool true) ∧ Below w.heap.size w w' := by
  have HT := Lib.hid ht
  clear ht
  have HL := Lib.hid hl
  have hcap : c ≤ 9223372036854775807 := hl.row.cap
  have hle := hl.row.le
  clear hl
  go_enter Try.func5, Try.ntmps5
  go_wp2_with fail
  refine (works_any w).mono ?_
  rintro e w1 ⟨rfl, hb1⟩
  have B1 := Lib.hid hb1
  clear hb1
  go_wp2_with fail
  refine (fewOps_any A n c os w1 (HL.out.later B1.out)).mono ?_
  rintro e w2 ⟨rfl, hb2⟩
  have B2 := Lib.hid (later B1.out hb2)
  clear hb2
  cases hf : fewOps os with
  | false =>
    go_wp2_with fail
    go_ret
    exact ⟨rfl, B2.out⟩
  | true =>
  have HF := Lib.hid ((fewOps_iff os).1 hf)
  have hn40 : n ≤ 40 := by have := HF.out.2; rw [HL.out.row.len] at this; exact this
  clear hf
  go_wp2_with fail
  obtain ⟨w4, hw4, hb4, hr4, hz4⟩ := one_box w2 #[.slice none 0 0, .int .i64 0] 28
  obtain ⟨g, hgg⟩ : ∃ g, w2.heap.size = g := ⟨_, rfl⟩
  have hgw : w.heap.size ≤ g := by rw [← hgg]; exact B2.out.size
  rw [hgg] at hr4
  have B4 := Lib.hid (And.intro hr4 (later B2.out hb4))
  clear hr4 hb4 hz4
  rw [hw4, hgg]
  clear hw4 hgg
  obtain ⟨l, hl⟩ : ∃ l, os.map absO = l := ⟨_, rfl⟩
  have HLL := Lib.hid hl
  have hln : l.length = n := by rw [← hl, List.length_map]; exact HL.out.row.len
  clear hl
  go_loopw [8] (fun vi wr => ∃ (k : Nat) (A' : Option Addr) (n' c' : Nat), k ≤ n ∧ vi = .int .i64 k ∧ wr.heap[g]? = some (.cells #[.slice A' n' c', .int .i64 (runM l (fun _ => 3) k).2] 28 (0, 0)) ∧ StA wr A' n' c' (runM l (fun _ => 3) k) ∧ Below w.heap.size w wr) (fun vi _ => n - (intOf vi).toNat)
  case atStart => exact ⟨0, none, 0, 0, Nat.zero_le _, rfl, B4.out.1, StA.nil _, B4.out.2⟩
  case round =>
    obtain ⟨k, A', n', c', hk, rfl, hrow, hS, hb⟩ := hrel
    by_cases hlt : k < n
    · skip
      have hkl : k < os.length := by rw [HL.out.row.len]; exact hlt
      have hkl2 : k < l.length := by omega
      obtain ⟨b, o, rfl, -, hcs⟩ := HL.out.cells hkl
      have hok := ((HL.out.ok _ (List.getElem_mem hkl)).later hb).okO (HF.out.1 _ (List.getElem_mem hkl))
      have hst := runM_step l (fun _ => 3) k hkl2
      have htold := told (runM_valid l (fun _ => 3) k) l[k] ((fun _ => 3) k)
      rw [show l[k] = absO os[k] by simp only [← HLL.out, List.getElem_map]] at hst htold
      obtain ⟨s, hs⟩ : ∃ s, runM l (fun _ => 3) k = s := ⟨_, rfl⟩
      rw [hs] at hst htold hS hrow
      generalize os[k] = x at *
      obtain ⟨kd, ⟨⟨P1, m1, q1⟩, L⟩, ⟨⟨P2, m2, q2⟩, M⟩, t0, te0, v0, g0⟩ := x
      unfold hdV at hcs
      dsimp only at hcs
      obtain ⟨⟨t, ⟨er, N, al⟩, r⟩, hd⟩ : ∃ p, doM s (absO ⟨kd, ((P1, m1, q1), L), ((P2, m2, q2), M), t0, te0, v0, g0⟩) 3 = p := ⟨_, rfl⟩
      rw [hd] at hst
      dsimp only at htold
      rw [hd] at htold
      dsimp only at hst htold
      have hfl : s.2 ≤ t.2 := htold.floor
      have HSS := Lib.hid (fun (V : World) (hV : Below wr.heap.size wr V) => And.intro (row2 hrow hV) (hcs V (later hb hV)))
      have KD := Lib.hid (fun (V : World) (hV : Below wr.heap.size wr V) => (do_c (gen := 3) (hS.later hV) (hok.later hV) hd : DoAt wr _ t (er, N, al) r V))
      have HX := Lib.hid (And.intro hrow (And.intro hS (And.intro hb hst)))
      have hgr : g < wr.heap.size := (Array.getElem?_eq_some_iff.1 hrow).1
      have hns : ¬ t.2 < s.2 := by omega
      have i0 : (0 : Int) ≤ (k : Int) := by omega
      have i1 : (k : Int) < (n : Int) := by omega
      clear hcs hok hst htold hd hS hb hrow hs
      unfold DoAt at KD
      simp only [hdV] at KD
      have bd : Below wr.heap.size wr wr.drew := ⟨rfl, rfl, rfl, Nat.le_refl _, fun _ _ => rfl⟩
      obtain ⟨wa, ha, ba0, ra, za0⟩ := one_box wr.drew #[.slice none 0 0, .int .i64 0] 28
      obtain ⟨wb, hbb, bb0, rb, zb0⟩ := one_box wr.drew #[.int .i64 0, .int .i64 0, .slice none 0 0] 31
      obtain ⟨wab, hab, bab0, rab, zab0⟩ := one_box wa #[.int .i64 0, .int .i64 0, .slice none 0 0] 31
      obtain ⟨wba, hba, bba0, rba, zba0⟩ := one_box wb #[.slice none 0 0, .int .i64 0] 28
      have za : wa.heap.size = wr.heap.size + 1 := za0
      have zb : wb.heap.size = wr.heap.size + 1 := zb0
      have zab : wab.heap.size = wr.heap.size + 2 := by omega
      have zba : wba.heap.size = wr.heap.size + 2 := by omega
      have ba : Below wr.heap.size wr wa := later bd ba0
      have bb : Below wr.heap.size wr wb := later bd bb0
      have bab : Below wr.heap.size wr wab := later ba bab0
      have bba : Below wr.heap.size wr wba := later bb bba0
      have ra' : wa.heap[wr.heap.size]? = some (.cells #[.slice none 0 0, .int .i64 0] 28 (0, 0)) := ra
      have rb' : wb.heap[wr.heap.size]? = some (.cells #[.int .i64 0, .int .i64 0, .slice none 0 0] 31 (0, 0)) := rb
      rw [za] at rab
      rw [zb] at rba
      have rab1 := (bab0.block _ (by omega)).trans ra'
      have rba1 := (bba0.block _ (by omega)).trans rb'
      have K0 := Lib.hid (KD.out _ bd)
      have Ka := Lib.hid (KD.out _ ba)
      have Kb := Lib.hid (KD.out _ bb)
      have Kab := Lib.hid (KD.out _ bab)
      have Kba := Lib.hid (KD.out _ bba)
      unfold DoAt at K0 Ka Kb Kab Kba
      clear ra rb za0 zb0 zab0 zba0 ba0 bb0 bab0 bba0 KD
      go_upto_region 11 with (fail)
      go_cut [9, 10, 11] from 26 to 47 (fun v9 v10 v11 wx => ∃ (g9 g10 : Nat) (A9 : Option Addr) (n9 c9 : Nat) (AR : Option Addr) (nr cr : Nat) (AS : Option Addr) (ns cs : Nat), v9 = .pointer (some ⟨g9, 0, none⟩) ∧ v10 = .pointer (some ⟨g10, 0, none⟩) ∧ v11 = .slice AR nr cr ∧ AftR wr wx g9 g10 A9 n9 c9 t AR nr cr r er N AS ns cs al)
      case first =>
        go_region_held3 (fun W : World => (W.cell? ⟨g, 0, none⟩ = some (.slice A' n' c') ∧ W.cell? ⟨g, 1, none⟩ = some (.int .i64 s.2)) ∧ (W.cell? ⟨b, o + k * 7, none⟩ = some (.int .i64 kd) ∧ W.cell? ⟨b, o + k * 7 + 1, none⟩ = some (.slice P1 m1 q1) ∧ W.cell? ⟨b, o + k * 7 + 2, none⟩ = some (.slice P2 m2 q2) ∧ W.cell? ⟨b, o + k * 7 + 3, none⟩ = some (.int .i64 t0) ∧ W.cell? ⟨b, o + k * 7 + 4, none⟩ = some (.int .i64 te0) ∧ W.cell? ⟨b, o + k * 7 + 5, none⟩ = some (.int .u64 v0) ∧ W.cell? ⟨b, o + k * 7 + 6, none⟩ = some (.int .i64 g0)))
          (exact HSS.out _ (by assumption))
          (first
            | (go_at_call 11
               (with_reducible refine K0.out.mono ?_)
               rintro e w5 ⟨A9, n9, c9, AR, nr, cr, AS, ns, cs, rfl, h1, h2, h3, h4⟩
               have b5 : Below wr.heap.size wr w5 := later bd h4
               have z5 := h4.size
               obtain ⟨x1, hx1, bx1, rx1, zx1⟩ := one_box w5 #[.slice none 0 0, .int .i64 0] 28
               obtain ⟨x2, hx2, bx2, rx2, zx2⟩ := one_box x1 #[.int .i64 0, .int .i64 0, .slice none 0 0] 31
               obtain ⟨y1, hy1, by1, ry1, zy1⟩ := one_box w5 #[.int .i64 0, .int .i64 0, .slice none 0 0] 31
               obtain ⟨y2, hy2, by2, ry2, zy2⟩ := one_box y1 #[.slice none 0 0, .int .i64 0] 28
               have bx1' := later b5 bx1
               have bx2' := later bx1' bx2
               have by1' := later b5 by1
               have by2' := later by1' by2
               rw [zx1] at rx2
               rw [zy1] at ry2
               have bx := later bx1 bx2
               have byy := later by1 by2
               have z0 := b5.size
               obtain ⟨s1, s2, s3, s4, s5, se1, se2, se3, se4, se5, ⟨⟨sv1, sf1⟩, sf2, ⟨sv2, sf3⟩, sf4⟩, ⟨⟨sv3, sf5⟩, sf6, ⟨sv4, sf7⟩, sf8, ⟨sv5, sf9⟩, sf10⟩, sR⟩ := put_both (wr := wr) (X := x2) (g9 := w5.heap.size) (g10 := (w5.heap.size + 1)) ((bx2.block _ (by omega)).trans rx1) rx2 (by omega) (h1.later bx) (h2.later bx) (h3.later bx) bx2' (by omega) (by omega) er N
               have sR := Lib.hid sR
               have sb1 : Below wr.heap.size wr s1 := by rw [← se1]; exact Below.setCell bx2' (show wr.heap.size ≤ w5.heap.size by omega) _
               have sb2 : Below wr.heap.size wr s2 := by rw [← se2]; exact Below.setCell sb1 (show wr.heap.size ≤ w5.heap.size by omega) _
               have sb3 : Below wr.heap.size wr s3 := by rw [← se3]; exact Below.setCell sb2 (show wr.heap.size ≤ (w5.heap.size + 1) by omega) _
               have sb4 : Below wr.heap.size wr s4 := by rw [← se4]; exact Below.setCell sb3 (show wr.heap.size ≤ (w5.heap.size + 1) by omega) _
               have sb5 : Below wr.heap.size wr s5 := by rw [← se5]; exact Below.setCell sb4 (show wr.heap.size ≤ (w5.heap.size + 1) by omega) _
               obtain ⟨u1, u2, u3, u4, u5, ue1, ue2, ue3, ue4, ue5, ⟨⟨uv1, uf1⟩, uf2, ⟨uv2, uf3⟩, uf4⟩, ⟨⟨uv3, uf5⟩, uf6, ⟨uv4, uf7⟩, uf8, ⟨uv5, uf9⟩, uf10⟩, uR⟩ := put_both (wr := wr) (X := y2) (g9 := (w5.heap.size + 1)) (g10 := w5.heap.size) ry2 ((by2.block _ (by omega)).trans ry1) (by omega) (h1.later byy) (h2.later byy) (h3.later byy) by2' (by omega) (by omega) er N
               have uR := Lib.hid uR
               have ub1 : Below wr.heap.size wr u1 := by rw [← ue1]; exact Below.setCell by2' (show wr.heap.size ≤ (w5.heap.size + 1) by omega) _
               have ub2 : Below wr.heap.size wr u2 := by rw [← ue2]; exact Below.setCell ub1 (show wr.heap.size ≤ (w5.heap.size + 1) by omega) _
               have ub3 : Below wr.heap.size wr u3 := by rw [← ue3]; exact Below.setCell ub2 (show wr.heap.size ≤ w5.heap.size by omega) _
               have ub4 : Below wr.heap.size wr u4 := by rw [← ue4]; exact Below.setCell ub3 (show wr.heap.size ≤ w5.heap.size by omega) _
               have ub5 : Below wr.heap.size wr u5 := by rw [← ue5]; exact Below.setCell ub4 (show wr.heap.size ≤ w5.heap.size by omega) _
               clear h1 h2 h3)
            | (go_at_call 11
               (with_reducible refine Ka.out.mono ?_)
               rintro e w5 ⟨A9, n9, c9, AR, nr, cr, AS, ns, cs, rfl, h1, h2, h3, h4⟩
               have b5 : Below wr.heap.size wr w5 := later ba h4
               have z5 := h4.size
               obtain ⟨y1, hy1, by1, ry1, zy1⟩ := one_box w5 #[.int .i64 0, .int .i64 0, .slice none 0 0] 31
               have by1' := later b5 by1
               obtain ⟨s1, s2, s3, s4, s5, se1, se2, se3, se4, se5, ⟨⟨sv1, sf1⟩, sf2, ⟨sv2, sf3⟩, sf4⟩, ⟨⟨sv3, sf5⟩, sf6, ⟨sv4, sf7⟩, sf8, ⟨sv5, sf9⟩, sf10⟩, sR⟩ := put_both (wr := wr) (X := y1) (g9 := wr.heap.size) (g10 := w5.heap.size) ((by1.block _ (by omega)).trans ((h4.block _ (by omega)).trans ra')) ry1 (by omega) (h1.later by1) (h2.later by1) (h3.later by1) by1' (by omega) (by omega) er N
               have sR := Lib.hid sR
               have sb1 : Below wr.heap.size wr s1 := by rw [← se1]; exact Below.setCell by1' (show wr.heap.size ≤ wr.heap.size by omega) _
               have sb2 : Below wr.heap.size wr s2 := by rw [← se2]; exact Below.setCell sb1 (show wr.heap.size ≤ wr.heap.size by omega) _
               have sb3 : Below wr.heap.size wr s3 := by rw [← se3]; exact Below.setCell sb2 (show wr.heap.size ≤ w5.heap.size by omega) _
               have sb4 : Below wr.heap.size wr s4 := by rw [← se4]; exact Below.setCell sb3 (show wr.heap.size ≤ w5.heap.size by omega) _
               have sb5 : Below wr.heap.size wr s5 := by rw [← se5]; exact Below.setCell sb4 (show wr.heap.size ≤ w5.heap.size by omega) _
               clear h1 h2 h3)
            | (go_at_call 11
               (with_reducible refine Kb.out.mono ?_)
               rintro e w5 ⟨A9, n9, c9, AR, nr, cr, AS, ns, cs, rfl, h1, h2, h3, h4⟩
               have b5 : Below wr.heap.size wr w5 := later bb h4
               have z5 := h4.size
               obtain ⟨x1, hx1, bx1, rx1, zx1⟩ := one_box w5 #[.slice none 0 0, .int .i64 0] 28
               have bx1' := later b5 bx1
               obtain ⟨s1, s2, s3, s4, s5, se1, se2, se3, se4, se5, ⟨⟨sv1, sf1⟩, sf2, ⟨sv2, sf3⟩, sf4⟩, ⟨⟨sv3, sf5⟩, sf6, ⟨sv4, sf7⟩, sf8, ⟨sv5, sf9⟩, sf10⟩, sR⟩ := put_both (wr := wr) (X := x1) (g9 := w5.heap.size) (g10 := wr.heap.size) rx1 ((bx1.block _ (by omega)).trans ((h4.block _ (by omega)).trans rb')) (by omega) (h1.later bx1) (h2.later bx1) (h3.later bx1) bx1' (by omega) (by omega) er N
               have sR := Lib.hid sR
               have sb1 : Below wr.heap.size wr s1 := by rw [← se1]; exact Below.setCell bx1' (show wr.heap.size ≤ w5.heap.size by omega) _
               have sb2 : Below wr.heap.size wr s2 := by rw [← se2]; exact Below.setCell sb1 (show wr.heap.size ≤ w5.heap.size by omega) _
               have sb3 : Below wr.heap.size wr s3 := by rw [← se3]; exact Below.setCell sb2 (show wr.heap.size ≤ wr.heap.size by omega) _
               have sb4 : Below wr.heap.size wr s4 := by rw [← se4]; exact Below.setCell sb3 (show wr.heap.size ≤ wr.heap.size by omega) _
               have sb5 : Below wr.heap.size wr s5 := by rw [← se5]; exact Below.setCell sb4 (show wr.heap.size ≤ wr.heap.size by omega) _
               clear h1 h2 h3)
            | (go_at_call 11
               (with_reducible refine Kab.out.mono ?_)
               rintro e w5 ⟨A9, n9, c9, AR, nr, cr, AS, ns, cs, rfl, h1, h2, h3, h4⟩
               have b5 : Below wr.heap.size wr w5 := later bab h4
               have z5 := h4.size
               obtain ⟨s1, s2, s3, s4, s5, se1, se2, se3, se4, se5, ⟨⟨sv1, sf1⟩, sf2, ⟨sv2, sf3⟩, sf4⟩, ⟨⟨sv3, sf5⟩, sf6, ⟨sv4, sf7⟩, sf8, ⟨sv5, sf9⟩, sf10⟩, sR⟩ := put_both (wr := wr) (X := w5) (g9 := wr.heap.size) (g10 := (wr.heap.size + 1)) ((h4.block _ (by omega)).trans rab1) ((h4.block _ (by omega)).trans rab) (by omega) h1 h2 h3 b5 (by omega) (by omega) er N
               have sR := Lib.hid sR
               have sb1 : Below wr.heap.size wr s1 := by rw [← se1]; exact Below.setCell b5 (show wr.heap.size ≤ wr.heap.size by omega) _
               have sb2 : Below wr.heap.size wr s2 := by rw [← se2]; exact Below.setCell sb1 (show wr.heap.size ≤ wr.heap.size by omega) _
               have sb3 : Below wr.heap.size wr s3 := by rw [← se3]; exact Below.setCell sb2 (show wr.heap.size ≤ (wr.heap.size + 1) by omega) _
               have sb4 : Below wr.heap.size wr s4 := by rw [← se4]; exact Below.setCell sb3 (show wr.heap.size ≤ (wr.heap.size + 1) by omega) _
               have sb5 : Below wr.heap.size wr s5 := by rw [← se5]; exact Below.setCell sb4 (show wr.heap.size ≤ (wr.heap.size + 1) by omega) _
               clear h1 h2 h3)
            | (go_at_call 11
               (with_reducible refine Kba.out.mono ?_)
               rintro e w5 ⟨A9, n9, c9, AR, nr, cr, AS, ns, cs, rfl, h1, h2, h3, h4⟩
               have b5 : Below wr.heap.size wr w5 := later bba h4
               have z5 := h4.size
               obtain ⟨s1, s2, s3, s4, s5, se1, se2, se3, se4, se5, ⟨⟨sv1, sf1⟩, sf2, ⟨sv2, sf3⟩, sf4⟩, ⟨⟨sv3, sf5⟩, sf6, ⟨sv4, sf7⟩, sf8, ⟨sv5, sf9⟩, sf10⟩, sR⟩ := put_both (wr := wr) (X := w5) (g9 := (wr.heap.size + 1)) (g10 := wr.heap.size) ((h4.block _ (by omega)).trans rba) ((h4.block _ (by omega)).trans rba1) (by omega) h1 h2 h3 b5 (by omega) (by omega) er N
               have sR := Lib.hid sR
               have sb1 : Below wr.heap.size wr s1 := by rw [← se1]; exact Below.setCell b5 (show wr.heap.size ≤ (wr.heap.size + 1) by omega) _
               have sb2 : Below wr.heap.size wr s2 := by rw [← se2]; exact Below.setCell sb1 (show wr.heap.size ≤ (wr.heap.size + 1) by omega) _
               have sb3 : Below wr.heap.size wr s3 := by rw [← se3]; exact Below.setCell sb2 (show wr.heap.size ≤ wr.heap.size by omega) _
               have sb4 : Below wr.heap.size wr s4 := by rw [← se4]; exact Below.setCell sb3 (show wr.heap.size ≤ wr.heap.size by omega) _
               have sb5 : Below wr.heap.size wr s5 := by rw [← se5]; exact Below.setCell sb4 (show wr.heap.size ≤ wr.heap.size by omega) _
               clear h1 h2 h3))
        all_goals (
          go_wp2_with fail
          go_meet
          first
          | exact ⟨_, _, _, _, _, _, _, _, _, _, _, rfl, rfl, rfl, sR.out⟩
          | exact ⟨_, _, _, _, _, _, _, _, _, _, _, rfl, rfl, rfl, uR.out⟩)
      case rest =>
        obtain ⟨g9, g10, A9, n9, c9, AR, nr, cr, AS, ns, cs, rfl, rfl, rfl, HAF⟩ := hcut
        have HAF := Lib.hid HAF
        clear ha hbb hab hba ra' rb' rab rba rab1 rba1 bd ba bb bab bba za zb zab zba K0 Ka Kb Kab Kba
        have hbx := HAF.out.below
        obtain ⟨x0, x1⟩ := row2 HAF.out.box (Below.refl _ _)
        obtain ⟨y0, y1⟩ := row2 HX.out.1 hbx
        obtain ⟨s1, s2, e1, e2, ⟨⟨v1, f1⟩, f2, ⟨v2, f3⟩, f4⟩, h7, h8, h9⟩ := HAF.out.st.put ((hbx.block _ hgr).trans HX.out.1) (later HX.out.2.2.1 hbx) hgw
        have HE := Lib.hid (And.intro h7 (And.intro h8 h9))
        clear h7 h8 h9 hbx
        go_wp2_with fail
        go_roundw
        case rel => exact ⟨k + 1, A9, n9, c9, by omega, by go_num, by rw [HX.out.2.2.2]; exact HE.out.1, by rw [HX.out.2.2.2]; exact HE.out.2.1, HE.out.2.2⟩
        case measure => simp [intOf]; omega
    · obtain rfl : k = n := by omega
      obtain ⟨s, hs⟩ : ∃ s, runM l (fun _ => 3) k = s := ⟨_, rfl⟩
      rw [hs] at hrow hS
      have HS := Lib.hid (And.intro hS (And.intro hrow hb))
      have hcap' : c' ≤ 9223372036854775807 := hS.cap
      have hle' := hS.le
      have hn20 : n' ≤ 20 := by rw [← hS.len]; exact hS.valid.len
      obtain ⟨SS, hSS, hSe⟩ := hS.ser
      have HSS := Lib.hid (And.intro hSS hSe)
      obtain ⟨x0, x1⟩ := row2 hrow (Below.refl _ _)
      clear hs hrow hS hb hSS hSe
      obtain ⟨V0, hV⟩ : ∃ V0, V0 = wr := ⟨_, rfl⟩
      subst hV
      go_wp2_with fail
      clear x0 x1
      go_loopw [12] (fun v12 wr => ∃ i : Nat, i ≤ n' ∧ v12 = .int .i64 i ∧ Below V0.heap.size V0 wr) (fun v12 _ => n' - (intOf v12).toNat)
      case atStart => exact ⟨0, Nat.zero_le _, rfl, Below.refl _ _⟩
      case round =>
        obtain ⟨i, hi, rfl, hb⟩ := hrel
        obtain ⟨x0, x1⟩ := row2 HS.out.2.1 hb
        by_cases hlt : i < n'
        · have hi1 : i < SS.length := by rw [HSS.out.1.row.len]; exact hlt
          have hi2 : i < s.1.length := by rw [HS.out.1.len]; exact hlt
          have hxl : s.1[i] = absR SS[i] := by simp only [← HSS.out.2, List.getElem_map]
          have hris := TrM.rises HS.out.1.valid hi2 t0' 1 3 [] 0 0
          have hfew := few_of_check (HS.out.1.valid.right _ (List.getElem_mem hi2)).lab
          rw [hxl] at hris hfew
          have hok := (HSS.out.1.ok _ (List.getElem_mem hi1)).later hb
          obtain ⟨b, o, hAS, -, hcs⟩ := HSS.out.1.cells hi1
          subst hAS
          obtain ⟨d0, d1, d2⟩ := hcs _ hb
          generalize SS[i] = y at *
          obtain ⟨⟨⟨A0, n0, c0⟩, L⟩, ⟨⟨A1, m1, q1⟩, S⟩, T⟩ := y
          unfold hdV at d0 d1
          dsimp only at d0 d1 d2 hris hfew
          obtain ⟨wA, hA, bA, rA, zA⟩ := one_box wr #[.slice A0 n0 c0, .slice A1 m1 q1, .int .i64 T] 48
          obtain ⟨⟨S5, ⟨e5, N5, l5⟩, r5⟩, hd⟩ : ∃ p, doM s ⟨0, L, [], t0', 0, 1, 0⟩ 3 = p := ⟨_, rfl⟩
          have hris : (e5 = 0 → s.2 ≤ t0' ∧ T ≤ t0') ∧ (r5 ≠ [] → s.2 ≤ t0' ∧ T < t0') := by
            have h1 := hris
            rw [show (absR (((A0, n0, c0), L), ((A1, m1, q1), S), T)).1 = L from rfl, hd] at h1
            exact h1
          have K5 := Lib.hid (do_c (gen := 3) (o := ⟨0, ((A0, n0, c0), L), ((none, 0, 0), []), t0', 0, 1, 0⟩) (HS.out.1.later (later hb bA)) (okO_of (hok.lab.later bA) hfew rfl HT.out (by simp) (by simp)) hd)
          have hbA := Lib.hid (later hb bA)
          obtain ⟨y0, y1⟩ := row2 HS.out.2.1 hbA.out
          obtain ⟨y2, y3, y4⟩ := row3 rA (Below.refl _ _)
          have HRA := Lib.hid rA
          have HRI := Lib.hid hris
          have i0 : (0 : Int) ≤ (i : Int) := by omega
          have i1 : (i : Int) < (n' : Int) := by omega
          clear hxl hcs hok hfew hd hb bA rA zA hris
          go_wp2_with fail
          refine K5.out.mono ?_
          rintro e w5 ⟨A5, n5, c5, AR5, nr5, cr5, AS5, ns5, cs5, rfl, h1, h2, h3, h4⟩
          obtain ⟨W5, hW5, b1, b2, b3, z5⟩ := two_boxes w5 #[.slice A5 n5 c5, .int .i64 S5.2] #[.int .i64 e5, .int .i64 N5, .slice AS5 ns5 cs5] 28 31
          have H5 := Lib.hid (And.intro (h1.later b1) (And.intro (h2.later b1) (And.intro (h3.later b1) (And.intro b2 (And.intro b3 (later h4 b1))))))
          clear h1 h2 h3 h4 b1 b2 b3 z5 K5
          have hr5 : r5.length = nr5 := H5.out.2.1.len
          have HB5 := Lib.hid (later hbA.out H5.out.2.2.2.2.2)
          clear x0 x1 y0 y1 y2 y3 y4 d0 d1 d2
          obtain ⟨x0, x1⟩ := row2 HS.out.2.1 HB5.out
          obtain ⟨y2, y3, y4⟩ := row3 HRA.out H5.out.2.2.2.2.2
          obtain ⟨z0, z1, z2⟩ := row3 H5.out.2.2.2.2.1 (Below.refl _ _)
          clear H5
          by_cases hr0 : nr5 = 0
          · subst hr0
            by_cases he0 : e5 = 0
            · subst he0
              obtain ⟨q2, q3⟩ := HRI.out.1 (by trivial)
              have q4 : ¬ t0' < s.2 := by omega
              have q5 : ¬ t0' < T := by omega
              clear q2 q3
              go_wp2_with fail
              go_roundw
              case rel => exact ⟨i + 1, by omega, by go_num, HB5.out⟩
              case measure => simp [intOf]; omega
            · by_cases q4 : t0' < s.2
              · skip
                go_wp2_with fail
                go_roundw
                case rel => exact ⟨i + 1, by omega, by go_num, HB5.out⟩
                case measure => simp [intOf]; omega
              · by_cases q5 : t0' < T
                · skip
                  go_wp2_with fail
                  go_roundw
                  case rel => exact ⟨i + 1, by omega, by go_num, HB5.out⟩
                  case measure => simp [intOf]; omega
                · skip
                  go_wp2_with fail
                  go_roundw
                  case rel => exact ⟨i + 1, by omega, by go_num, HB5.out⟩
                  case measure => simp [intOf]; omega
          · obtain ⟨q2, q3⟩ := HRI.out.2 (fun e => hr0 (by rw [← hr5, e]; rfl))
            have q4 : ¬ t0' < s.2 := by omega
            have q5 : ¬ t0' < T := by omega
            have q6 : ¬ t0' ≤ T := by omega
            have q7 : 0 < nr5 := by omega
            clear q2 q3
            go_wp2_with fail
            go_roundw
            case rel => exact ⟨i + 1, by omega, by go_num, HB5.out⟩
            case measure => simp [intOf]; omega
        · obtain rfl : i = n' := by omega
          have HB := Lib.hid (later HS.out.2.2 hb)
          clear hb
          go_wp2_with fail
          go_ret
          exact ⟨rfl, HB.out⟩
end Go.Proofs.Ytdjgndnllaingaa.TrW
