/-
  alluviumlaw08.TruthTells: THE WALK. (Printed by gen/trlaw.py.)
-/
import Derived.Test.YtdjgndnllaingaaJ44
import Derived.Deep.RegionHeld3
/-
  alluviumlaw08.TruthTells: THE WALK. (Printed by gen/trlaw.py.)
-/
namespace Go.Proofs.Ytdjgndnllaingaa.TrW
set_option linter.unusedVariables false
open Go.RowKit Go.Shelf LabM LbM LabW FrW TrM
def encG (x : Int) : List Value := [.int .i64 x]
set_option maxRecDepth 100000 in
set_option maxHeartbeats 8000000 in
theorem tells_walk (A : Option Addr) (n c : Nat) (os : List OpH) (A2 : Option Addr) (n2 c2 : Nat) (gs : List Int) (w : World) (hl : Ops w A n c os) (hg : Comes w 1 encG (fun _ => True) A2 n2 c2 gs) :
    Calls Try.prog 3 #[.slice A n c, .slice A2 n2 c2] w fun e w' => e = .returned (.bool true) ∧ Below w.heap.size w w' := by
  have HG := Lib.hid hg
  have hle2 := hg.le
  have hcap2 : c2 ≤ 9223372036854775807 := hg.cap
  clear hg
  have HL := Lib.hid hl
  have hcap : c ≤ 9223372036854775807 := hl.row.cap
  have hle := hl.row.le
  clear hl
  go_enter Try.func3, Try.ntmps3
  go_wp2_with fail
  refine (works_any w).mono ?_
  rintro e w1 ⟨rfl, hb1⟩
  have B1 := Lib.hid hb1
  clear hb1
  go_wp2_with fail
  refine (fewOps_any A n c os w1 (HL.out.later B1.out)).mono ?_
  rintro e w2 ⟨rfl, hb2⟩
  have B2 := Lib.hid (later B1.out hb2)
  clear hb2
  cases hf : fewOps os with
  | false =>
    go_wp2_with fail
    go_ret
    exact ⟨rfl, B2.out⟩
  | true =>
  have HF := Lib.hid ((fewOps_iff os).1 hf)
  have hn40 : n ≤ 40 := by have := HF.out.2; rw [HL.out.row.len] at this; exact this
  clear hf
  by_cases hgl : n2 < n
  · go_wp2_with fail
    go_ret
    exact ⟨rfl, B2.out⟩
  go_wp2_with fail
  obtain ⟨w4, hw4, hb4, hr4, hz4⟩ := one_box w2 #[.slice none 0 0, .int .i64 0] 28
  obtain ⟨g, hgg⟩ : ∃ g, w2.heap.size = g := ⟨_, rfl⟩
  have hgw : w.heap.size ≤ g := by rw [← hgg]; exact B2.out.size
  rw [hgg] at hr4
  have B4 := Lib.hid (And.intro hr4 (later B2.out hb4))
  clear hr4 hb4 hz4
  rw [hw4, hgg]
  clear hw4 hgg
  obtain ⟨l, hl⟩ : ∃ l, os.map absO = l := ⟨_, rfl⟩
  have HLL := Lib.hid hl
  have hln : l.length = n := by rw [← hl, List.length_map]; exact HL.out.row.len
  clear hl
  obtain ⟨G, hG⟩ : ∃ G : Nat → Int, G = fun i => gs.getD i 0 := ⟨_, rfl⟩
  have HGG := Lib.hid hG
  clear hG
  go_loopw [8] (fun vi wr => ∃ (k : Nat) (A' : Option Addr) (n' c' : Nat), k ≤ n ∧ vi = .int .i64 k ∧ wr.heap[g]? = some (.cells #[.slice A' n' c', .int .i64 (runM l G k).2] 28 (0, 0)) ∧ StA wr A' n' c' (runM l G k) ∧ Below w.heap.size w wr) (fun vi _ => n - (intOf vi).toNat)
  case atStart => exact ⟨0, none, 0, 0, Nat.zero_le _, rfl, B4.out.1, StA.nil _, B4.out.2⟩
  case round =>
    obtain ⟨k, A', n', c', hk, rfl, hrow, hS, hb⟩ := hrel
    by_cases hlt : k < n
    · skip
      have hkl : k < os.length := by rw [HL.out.row.len]; exact hlt
      have hkl2 : k < l.length := by omega
      obtain ⟨b, o, rfl, -, hcs⟩ := HL.out.cells hkl
      have hok := ((HL.out.ok _ (List.getElem_mem hkl)).later hb).okO (HF.out.1 _ (List.getElem_mem hkl))
      have hst := runM_step l G k hkl2
      have htold := told (runM_valid l G k) l[k] (G k)
      rw [show l[k] = absO os[k] by simp only [← HLL.out, List.getElem_map]] at hst htold
      obtain ⟨s, hs⟩ : ∃ s, runM l G k = s := ⟨_, rfl⟩
      rw [hs] at hst htold hS hrow
      generalize os[k] = x at *
      obtain ⟨kd, ⟨⟨P1, m1, q1⟩, L⟩, ⟨⟨P2, m2, q2⟩, M⟩, t0, te0, v0, g0⟩ := x
      unfold hdV at hcs
      (try dsimp only at hcs)
      have hkg : k < gs.length := by rw [HG.out.len]; omega
      obtain ⟨b2, o2, rfl, -, hcg⟩ := HG.out.lies.all hkg
      have hGk : G k = gs[k] := by rw [HGG.out]; simp [hkg]
      obtain ⟨gk, hgk⟩ : ∃ gk, gs[k] = gk := ⟨_, rfl⟩
      rw [hgk] at hcg hGk
      rw [hGk] at hst htold
      have hcg0 : ∀ V, Below w.heap.size w V → V.cell? ⟨b2, o2 + k, none⟩ = some (.int .i64 gk) := fun V hV => by
        have := hcg V hV 0 _ rfl
        simpa using this
      have hvs := hS.valid
      have hrl20 := recs_len hvs (absO ⟨kd, ((P1, m1, q1), L), ((P2, m2, q2), M), t0, te0, v0, g0⟩) gk
      obtain ⟨⟨t, ⟨er, N, al⟩, r⟩, hd⟩ : ∃ p, doM s (absO ⟨kd, ((P1, m1, q1), L), ((P2, m2, q2), M), t0, te0, v0, g0⟩) gk = p := ⟨_, rfl⟩
      rw [hd] at hst hrl20
      (try dsimp only at htold)
      rw [hd] at htold
      (try dsimp only at hst htold hrl20)
      have HTO := Lib.hid (And.intro htold hrl20)
      have HSS := Lib.hid (fun (V : World) (hV : Below wr.heap.size wr V) => And.intro (row2 hrow hV) (And.intro (hcs V (later hb hV)) (hcg0 V (later hb hV))))
      have KD := Lib.hid (fun (V : World) (hV : Below wr.heap.size wr V) => (do_c (gen := gk) (hS.later hV) (hok.later hV) hd : DoAt wr _ t (er, N, al) r V))
      have HX := Lib.hid (And.intro hrow (And.intro hS (And.intro hb hst)))
      have hgr : g < wr.heap.size := (Array.getElem?_eq_some_iff.1 hrow).1
      have i0 : (0 : Int) ≤ (k : Int) := by omega
      have i1 : (k : Int) < (n : Int) := by omega
      have i2 : (k : Int) < (n2 : Int) := by omega
      clear hcs hok hst htold hd hS hb hrow hs hcg hcg0 hGk hgk hvs hrl20
      unfold DoAt at KD
      simp only [hdV] at KD
      have bd : Below wr.heap.size wr wr.drew := ⟨rfl, rfl, rfl, Nat.le_refl _, fun _ _ => rfl⟩
      obtain ⟨wa, ha, ba0, ra, za0⟩ := one_box wr.drew #[.slice none 0 0, .int .i64 0] 28
      obtain ⟨wb, hbb, bb0, rb, zb0⟩ := one_box wr.drew #[.int .i64 0, .int .i64 0, .slice none 0 0] 31
      obtain ⟨wab, hab, bab0, rab, zab0⟩ := one_box wa #[.int .i64 0, .int .i64 0, .slice none 0 0] 31
      obtain ⟨wba, hba, bba0, rba, zba0⟩ := one_box wb #[.slice none 0 0, .int .i64 0] 28
      have za : wa.heap.size = wr.heap.size + 1 := za0
      have zb : wb.heap.size = wr.heap.size + 1 := zb0
      have zab : wab.heap.size = wr.heap.size + 2 := by omega
      have zba : wba.heap.size = wr.heap.size + 2 := by omega
      have ba : Below wr.heap.size wr wa := later bd ba0
      have bb : Below wr.heap.size wr wb := later bd bb0
      have bab : Below wr.heap.size wr wab := later ba bab0
      have bba : Below wr.heap.size wr wba := later bb bba0
      have ra' : wa.heap[wr.heap.size]? = some (.cells #[.slice none 0 0, .int .i64 0] 28 (0, 0)) := ra
      have rb' : wb.heap[wr.heap.size]? = some (.cells #[.int .i64 0, .int .i64 0, .slice none 0 0] 31 (0, 0)) := rb
      rw [za] at rab
      rw [zb] at rba
      have rab1 := (bab0.block _ (by omega)).trans ra'
      have rba1 := (bba0.block _ (by omega)).trans rb'
      have K0 := Lib.hid (KD.out _ bd)
      have Ka := Lib.hid (KD.out _ ba)
      have Kb := Lib.hid (KD.out _ bb)
      have Kab := Lib.hid (KD.out _ bab)
      have Kba := Lib.hid (KD.out _ bba)
      unfold DoAt at K0 Ka Kb Kab Kba
      clear ra rb za0 zb0 zab0 zba0 ba0 bb0 bab0 bba0 KD
      go_upto_region 11 with (fail)
      go_cut [9, 10, 11] from 30 to 105 (fun v9 v10 v11 wx => ∃ (g9 g10 : Nat) (A9 : Option Addr) (n9 c9 : Nat) (AR : Option Addr) (nr cr : Nat) (AS : Option Addr) (ns cs : Nat), v9 = .pointer (some ⟨g9, 0, none⟩) ∧ v10 = .pointer (some ⟨g10, 0, none⟩) ∧ v11 = .slice AR nr cr ∧ AftR wr wx g9 g10 A9 n9 c9 t AR nr cr r er N AS ns cs al)
      case first =>
        go_region_held3 (fun W : World => (W.cell? ⟨g, 0, none⟩ = some (.slice A' n' c') ∧ W.cell? ⟨g, 1, none⟩ = some (.int .i64 s.2)) ∧ (W.cell? ⟨b, o + k * 7, none⟩ = some (.int .i64 kd) ∧ W.cell? ⟨b, o + k * 7 + 1, none⟩ = some (.slice P1 m1 q1) ∧ W.cell? ⟨b, o + k * 7 + 2, none⟩ = some (.slice P2 m2 q2) ∧ W.cell? ⟨b, o + k * 7 + 3, none⟩ = some (.int .i64 t0) ∧ W.cell? ⟨b, o + k * 7 + 4, none⟩ = some (.int .i64 te0) ∧ W.cell? ⟨b, o + k * 7 + 5, none⟩ = some (.int .u64 v0) ∧ W.cell? ⟨b, o + k * 7 + 6, none⟩ = some (.int .i64 g0)) ∧ W.cell? ⟨b2, o2 + k, none⟩ = some (.int .i64 gk))
          (exact HSS.out _ (by assumption))
          (first
            | (go_at_call 11
               (with_reducible refine K0.out.mono ?_)
               rintro e w5 ⟨A9, n9, c9, AR, nr, cr, AS, ns, cs, rfl, h1, h2, h3, h4⟩
               have b5 : Below wr.heap.size wr w5 := later bd h4
               have z5 := h4.size
               obtain ⟨x1, hx1, bx1, rx1, zx1⟩ := one_box w5 #[.slice none 0 0, .int .i64 0] 28
               obtain ⟨x2, hx2, bx2, rx2, zx2⟩ := one_box x1 #[.int .i64 0, .int .i64 0, .slice none 0 0] 31
               obtain ⟨y1, hy1, by1, ry1, zy1⟩ := one_box w5 #[.int .i64 0, .int .i64 0, .slice none 0 0] 31
               obtain ⟨y2, hy2, by2, ry2, zy2⟩ := one_box y1 #[.slice none 0 0, .int .i64 0] 28
               have bx1' := later b5 bx1
               have bx2' := later bx1' bx2
               have by1' := later b5 by1
               have by2' := later by1' by2
               rw [zx1] at rx2
               rw [zy1] at ry2
               have bx := later bx1 bx2
               have byy := later by1 by2
               have z0 := b5.size
               obtain ⟨s1, s2, s3, s4, s5, se1, se2, se3, se4, se5, ⟨⟨sv1, sf1⟩, sf2, ⟨sv2, sf3⟩, sf4⟩, ⟨⟨sv3, sf5⟩, sf6, ⟨sv4, sf7⟩, sf8, ⟨sv5, sf9⟩, sf10⟩, sR⟩ := put_both (wr := wr) (X := x2) (g9 := w5.heap.size) (g10 := (w5.heap.size + 1)) ((bx2.block _ (by omega)).trans rx1) rx2 (by omega) (h1.later bx) (h2.later bx) (h3.later bx) bx2' (by omega) (by omega) er N
               have sR := Lib.hid sR
               have sb1 : Below wr.heap.size wr s1 := by rw [← se1]; exact Below.setCell bx2' (show wr.heap.size ≤ w5.heap.size by omega) _
               have sb2 : Below wr.heap.size wr s2 := by rw [← se2]; exact Below.setCell sb1 (show wr.heap.size ≤ w5.heap.size by omega) _
               have sb3 : Below wr.heap.size wr s3 := by rw [← se3]; exact Below.setCell sb2 (show wr.heap.size ≤ (w5.heap.size + 1) by omega) _
               have sb4 : Below wr.heap.size wr s4 := by rw [← se4]; exact Below.setCell sb3 (show wr.heap.size ≤ (w5.heap.size + 1) by omega) _
               have sb5 : Below wr.heap.size wr s5 := by rw [← se5]; exact Below.setCell sb4 (show wr.heap.size ≤ (w5.heap.size + 1) by omega) _
               obtain ⟨u1, u2, u3, u4, u5, ue1, ue2, ue3, ue4, ue5, ⟨⟨uv1, uf1⟩, uf2, ⟨uv2, uf3⟩, uf4⟩, ⟨⟨uv3, uf5⟩, uf6, ⟨uv4, uf7⟩, uf8, ⟨uv5, uf9⟩, uf10⟩, uR⟩ := put_both (wr := wr) (X := y2) (g9 := (w5.heap.size + 1)) (g10 := w5.heap.size) ry2 ((by2.block _ (by omega)).trans ry1) (by omega) (h1.later byy) (h2.later byy) (h3.later byy) by2' (by omega) (by omega) er N
               have uR := Lib.hid uR
               have ub1 : Below wr.heap.size wr u1 := by rw [← ue1]; exact Below.setCell by2' (show wr.heap.size ≤ (w5.heap.size + 1) by omega) _
               have ub2 : Below wr.heap.size wr u2 := by rw [← ue2]; exact Below.setCell ub1 (show wr.heap.size ≤ (w5.heap.size + 1) by omega) _
               have ub3 : Below wr.heap.size wr u3 := by rw [← ue3]; exact Below.setCell ub2 (show wr.heap.size ≤ w5.heap.size by omega) _
               have ub4 : Below wr.heap.size wr u4 := by rw [← ue4]; exact Below.setCell ub3 (show wr.heap.size ≤ w5.heap.size by omega) _
               have ub5 : Below wr.heap.size wr u5 := by rw [← ue5]; exact Below.setCell ub4 (show wr.heap.size ≤ w5.heap.size by omega) _
               clear h1 h2 h3)
            | (go_at_call 11
               (with_reducible refine Ka.out.mono ?_)
               rintro e w5 ⟨A9, n9, c9, AR, nr, cr, AS, ns, cs, rfl, h1, h2, h3, h4⟩
               have b5 : Below wr.heap.size wr w5 := later ba h4
               have z5 := h4.size
               obtain ⟨y1, hy1, by1, ry1, zy1⟩ := one_box w5 #[.int .i64 0, .int .i64 0, .slice none 0 0] 31
               have by1' := later b5 by1
               obtain ⟨s1, s2, s3, s4, s5, se1, se2, se3, se4, se5, ⟨⟨sv1, sf1⟩, sf2, ⟨sv2, sf3⟩, sf4⟩, ⟨⟨sv3, sf5⟩, sf6, ⟨sv4, sf7⟩, sf8, ⟨sv5, sf9⟩, sf10⟩, sR⟩ := put_both (wr := wr) (X := y1) (g9 := wr.heap.size) (g10 := w5.heap.size) ((by1.block _ (by omega)).trans ((h4.block _ (by omega)).trans ra')) ry1 (by omega) (h1.later by1) (h2.later by1) (h3.later by1) by1' (by omega) (by omega) er N
               have sR := Lib.hid sR
               have sb1 : Below wr.heap.size wr s1 := by rw [← se1]; exact Below.setCell by1' (show wr.heap.size ≤ wr.heap.size by omega) _
               have sb2 : Below wr.heap.size wr s2 := by rw [← se2]; exact Below.setCell sb1 (show wr.heap.size ≤ wr.heap.size by omega) _
               have sb3 : Below wr.heap.size wr s3 := by rw [← se3]; exact Below.setCell sb2 (show wr.heap.size ≤ w5.heap.size by omega) _
               have sb4 : Below wr.heap.size wr s4 := by rw [← se4]; exact Below.setCell sb3 (show wr.heap.size ≤ w5.heap.size by omega) _
               have sb5 : Below wr.heap.size wr s5 := by rw [← se5]; exact Below.setCell sb4 (show wr.heap.size ≤ w5.heap.size by omega) _
               clear h1 h2 h3)
            | (go_at_call 11
               (with_reducible refine Kb.out.mono ?_)
               rintro e w5 ⟨A9, n9, c9, AR, nr, cr, AS, ns, cs, rfl, h1, h2, h3, h4⟩
               have b5 : Below wr.heap.size wr w5 := later bb h4
               have z5 := h4.size
               obtain ⟨x1, hx1, bx1, rx1, zx1⟩ := one_box w5 #[.slice none 0 0, .int .i64 0] 28
               have bx1' := later b5 bx1
               obtain ⟨s1, s2, s3, s4, s5, se1, se2, se3, se4, se5, ⟨⟨sv1, sf1⟩, sf2, ⟨sv2, sf3⟩, sf4⟩, ⟨⟨sv3, sf5⟩, sf6, ⟨sv4, sf7⟩, sf8, ⟨sv5, sf9⟩, sf10⟩, sR⟩ := put_both (wr := wr) (X := x1) (g9 := w5.heap.size) (g10 := wr.heap.size) rx1 ((bx1.block _ (by omega)).trans ((h4.block _ (by omega)).trans rb')) (by omega) (h1.later bx1) (h2.later bx1) (h3.later bx1) bx1' (by omega) (by omega) er N
               have sR := Lib.hid sR
               have sb1 : Below wr.heap.size wr s1 := by rw [← se1]; exact Below.setCell bx1' (show wr.heap.size ≤ w5.heap.size by omega) _
               have sb2 : Below wr.heap.size wr s2 := by rw [← se2]; exact Below.setCell sb1 (show wr.heap.size ≤ w5.heap.size by omega) _
               have sb3 : Below wr.heap.size wr s3 := by rw [← se3]; exact Below.setCell sb2 (show wr.heap.size ≤ wr.heap.size by omega) _
               have sb4 : Below wr.heap.size wr s4 := by rw [← se4]; exact Below.setCell sb3 (show wr.heap.size ≤ wr.heap.size by omega) _
               have sb5 : Below wr.heap.size wr s5 := by rw [← se5]; exact Below.setCell sb4 (show wr.heap.size ≤ wr.heap.size by omega) _
               clear h1 h2 h3)
            | (go_at_call 11
               (with_reducible refine Kab.out.mono ?_)
               rintro e w5 ⟨A9, n9, c9, AR, nr, cr, AS, ns, cs, rfl, h1, h2, h3, h4⟩
               have b5 : Below wr.heap.size wr w5 := later bab h4
               have z5 := h4.size
               obtain ⟨s1, s2, s3, s4, s5, se1, se2, se3, se4, se5, ⟨⟨sv1, sf1⟩, sf2, ⟨sv2, sf3⟩, sf4⟩, ⟨⟨sv3, sf5⟩, sf6, ⟨sv4, sf7⟩, sf8, ⟨sv5, sf9⟩, sf10⟩, sR⟩ := put_both (wr := wr) (X := w5) (g9 := wr.heap.size) (g10 := (wr.heap.size + 1)) ((h4.block _ (by omega)).trans rab1) ((h4.block _ (by omega)).trans rab) (by omega) h1 h2 h3 b5 (by omega) (by omega) er N
               have sR := Lib.hid sR
               have sb1 : Below wr.heap.size wr s1 := by rw [← se1]; exact Below.setCell b5 (show wr.heap.size ≤ wr.heap.size by omega) _
               have sb2 : Below wr.heap.size wr s2 := by rw [← se2]; exact Below.setCell sb1 (show wr.heap.size ≤ wr.heap.size by omega) _
               have sb3 : Below wr.heap.size wr s3 := by rw [← se3]; exact Below.setCell sb2 (show wr.heap.size ≤ (wr.heap.size + 1) by omega) _
               have sb4 : Below wr.heap.size wr s4 := by rw [← se4]; exact Below.setCell sb3 (show wr.heap.size ≤ (wr.heap.size + 1) by omega) _
               have sb5 : Below wr.heap.size wr s5 := by rw [← se5]; exact Below.setCell sb4 (show wr.heap.size ≤ (wr.heap.size + 1) by omega) _
               clear h1 h2 h3)
            | (go_at_call 11
               (with_reducible refine Kba.out.mono ?_)
               rintro e w5 ⟨A9, n9, c9, AR, nr, cr, AS, ns, cs, rfl, h1, h2, h3, h4⟩
               have b5 : Below wr.heap.size wr w5 := later bba h4
               have z5 := h4.size
               obtain ⟨s1, s2, s3, s4, s5, se1, se2, se3, se4, se5, ⟨⟨sv1, sf1⟩, sf2, ⟨sv2, sf3⟩, sf4⟩, ⟨⟨sv3, sf5⟩, sf6, ⟨sv4, sf7⟩, sf8, ⟨sv5, sf9⟩, sf10⟩, sR⟩ := put_both (wr := wr) (X := w5) (g9 := (wr.heap.size + 1)) (g10 := wr.heap.size) ((h4.block _ (by omega)).trans rba) ((h4.block _ (by omega)).trans rba1) (by omega) h1 h2 h3 b5 (by omega) (by omega) er N
               have sR := Lib.hid sR
               have sb1 : Below wr.heap.size wr s1 := by rw [← se1]; exact Below.setCell b5 (show wr.heap.size ≤ (wr.heap.size + 1) by omega) _
               have sb2 : Below wr.heap.size wr s2 := by rw [← se2]; exact Below.setCell sb1 (show wr.heap.size ≤ (wr.heap.size + 1) by omega) _
               have sb3 : Below wr.heap.size wr s3 := by rw [← se3]; exact Below.setCell sb2 (show wr.heap.size ≤ wr.heap.size by omega) _
               have sb4 : Below wr.heap.size wr s4 := by rw [← se4]; exact Below.setCell sb3 (show wr.heap.size ≤ wr.heap.size by omega) _
               have sb5 : Below wr.heap.size wr s5 := by rw [← se5]; exact Below.setCell sb4 (show wr.heap.size ≤ wr.heap.size by omega) _
               clear h1 h2 h3))
        all_goals (
          go_wp2_with fail
          go_meet
          first
          | exact ⟨_, _, _, _, _, _, _, _, _, _, _, rfl, rfl, rfl, sR.out⟩
          | exact ⟨_, _, _, _, _, _, _, _, _, _, _, rfl, rfl, rfl, uR.out⟩)
      case rest =>
        obtain ⟨g9, g10, A9, n9, c9, AR, nr, cr, AS, ns, cs, rfl, rfl, rfl, HAF⟩ := hcut
        have HAF := Lib.hid HAF
        clear ha hbb hab hba ra' rb' rab rba rab1 rba1 bd ba bb bab bba za zb zab zba K0 Ka Kb Kab Kba
        have hbx := Lib.hid HAF.out.below
        have hnr : r.length = nr := HAF.out.re.len
        obtain ⟨x0, x1⟩ := row2 HX.out.1 hbx.out
        have K6 := Lib.hid (all_c (HX.out.2.1.later hbx.out) HAF.out.re (by have := HTO.out.2; omega) HTO.out.1.all)
        rw [hnr] at K6
        go_wp2_with fail
        refine K6.out.mono ?_
        rintro e w6 ⟨A6, n6, c6, rfl, h1, h4⟩
        obtain ⟨W6, hW6, b1, b2, z6⟩ := one_box w6 #[.slice A6 n6 c6, .int .i64 t.2] 28
        have b6 := Lib.hid (later h4 b1)
        have HU := Lib.hid (And.intro (h1.later b1) b2)
        clear h1 h4 b1 b2 z6 K6 x0 x1
        have HQ := Lib.hid (fun (V : World) (hV : Below W6.heap.size W6 V) => And.intro (row2 HAF.out.box (later b6.out hV)) (And.intro (row2 HX.out.1 (later hbx.out (later b6.out hV))) (And.intro (row2 HU.out.2 hV) (row3 HAF.out.ans (later b6.out hV)))))
        have KS1 := Lib.hid (fun (V : World) (hV : Below W6.heap.size W6 V) => (by
          have := same_c (HAF.out.st.later (later b6.out hV)) (HU.out.1.later hV)
          rw [decide_eq_true rfl] at this
          exact this : Calls Try.prog 13 #[.agg #[.slice A9 n9 c9, .int .i64 t.2], .agg #[.slice A6 n6 c6, .int .i64 t.2]] V fun e w' => e = .returned (.bool true) ∧ Below V.heap.size V w'))
        have KV := Lib.hid (fun (V : World) (hV : Below W6.heap.size W6 V) => valid_c (HAF.out.st.later (later b6.out hV)))
        have KS2 := Lib.hid (fun (V : World) (hV : Below W6.heap.size W6 V) => same_c (HX.out.2.1.later (later hbx.out (later b6.out hV))) (HAF.out.st.later (later b6.out hV)))
        obtain ⟨⟨x0, x1⟩, ⟨x2, x3⟩, ⟨x4, x5⟩, ⟨y0, y1, y2⟩⟩ := HQ.out _ (Below.refl _ _)
        go_wp2_with fail
        refine (KS1.out _ (Below.refl _ _)).mono ?_
        rintro e w7 ⟨rfl, hb7⟩
        have HV7 := Lib.hid hb7
        clear hb7 hW6
        clear x0 x1 x2 x3 x4 x5 y0 y1 y2
        obtain ⟨⟨x0, x1⟩, ⟨x2, x3⟩, ⟨x4, x5⟩, ⟨y0, y1, y2⟩⟩ := HQ.out _ HV7.out
        go_wp2_with fail
        refine (KV.out _ HV7.out).mono ?_
        rintro e w8 ⟨rfl, hb8⟩
        have HV8 := Lib.hid (later HV7.out hb8)
        clear hb8 KS1 KV
        clear x0 x1 x2 x3 x4 x5 y0 y1 y2
        obtain ⟨⟨x0, x1⟩, ⟨x2, x3⟩, ⟨x4, x5⟩, ⟨y0, y1, y2⟩⟩ := HQ.out _ HV8.out
        by_cases hnr0 : nr = 0
        · have hrr : r = [] := List.eq_nil_of_length_eq_zero (by rw [hnr]; exact hnr0)
          have hts : s = t := (HTO.out.1.same (.inr hrr)).symm
          rw [decide_eq_true hts] at KS2
          clear hts
          by_cases her : er = 0
          · skip
            go_wp2_with fail
            refine (KS2.out _ HV8.out).mono ?_
            rintro e w9 ⟨rfl, hb9⟩
            have HV9 := Lib.hid (later HV8.out hb9)
            clear hb9
            clear x0 x1 x2 x3 x4 x5 y0 y1 y2
            obtain ⟨⟨x0, x1⟩, ⟨x2, x3⟩, ⟨x4, x5⟩, ⟨y0, y1, y2⟩⟩ := HQ.out _ HV9.out
            obtain ⟨s1, s2, e1, e2, ⟨⟨v1, f1⟩, f2, ⟨v2, f3⟩, f4⟩, h7, h8, h9⟩ := (HAF.out.st.later (later b6.out HV9.out)).put (((later hbx.out (later b6.out HV9.out)).block _ hgr).trans HX.out.1) (later HX.out.2.2.1 (later hbx.out (later b6.out HV9.out))) hgw
            have HE := Lib.hid (And.intro h7 (And.intro h8 h9))
            clear h7 h8 h9
            go_wp2_with fail
            go_roundw
            case rel => exact ⟨k + 1, A9, n9, c9, by omega, by go_num, by rw [HX.out.2.2.2]; exact HE.out.1, by rw [HX.out.2.2.2]; exact HE.out.2.1, HE.out.2.2⟩
            case measure => simp [intOf]; omega
          · skip
            go_wp2_with fail
            refine (KS2.out _ HV8.out).mono ?_
            rintro e w9 ⟨rfl, hb9⟩
            have HV9 := Lib.hid (later HV8.out hb9)
            clear hb9
            clear x0 x1 x2 x3 x4 x5 y0 y1 y2
            obtain ⟨⟨x0, x1⟩, ⟨x2, x3⟩, ⟨x4, x5⟩, ⟨y0, y1, y2⟩⟩ := HQ.out _ HV9.out
            obtain ⟨s1, s2, e1, e2, ⟨⟨v1, f1⟩, f2, ⟨v2, f3⟩, f4⟩, h7, h8, h9⟩ := (HAF.out.st.later (later b6.out HV9.out)).put (((later hbx.out (later b6.out HV9.out)).block _ hgr).trans HX.out.1) (later HX.out.2.2.1 (later hbx.out (later b6.out HV9.out))) hgw
            have HE := Lib.hid (And.intro h7 (And.intro h8 h9))
            clear h7 h8 h9
            go_wp2_with fail
            go_roundw
            case rel => exact ⟨k + 1, A9, n9, c9, by omega, by go_num, by rw [HX.out.2.2.2]; exact HE.out.1, by rw [HX.out.2.2.2]; exact HE.out.2.1, HE.out.2.2⟩
            case measure => simp [intOf]; omega
        · have hrr : r ≠ [] := fun e => hnr0 (by rw [← hnr, e]; rfl)
          have hts : ¬ s = t := fun e => HTO.out.1.more hrr e.symm
          rw [decide_eq_false hts] at KS2
          have her : er = 0 := by
            by_cases h : er = 0
            · exact h
            · exact absurd (HTO.out.1.err h) hrr
          have hnp : 0 < nr := by omega
          clear hts
          go_wp2_with fail
          refine (KS2.out _ HV8.out).mono ?_
          rintro e w9 ⟨rfl, hb9⟩
          have HV9 := Lib.hid (later HV8.out hb9)
          clear hb9
          clear x0 x1 x2 x3 x4 x5 y0 y1 y2
          obtain ⟨⟨x0, x1⟩, ⟨x2, x3⟩, ⟨x4, x5⟩, ⟨y0, y1, y2⟩⟩ := HQ.out _ HV9.out
          obtain ⟨s1, s2, e1, e2, ⟨⟨v1, f1⟩, f2, ⟨v2, f3⟩, f4⟩, h7, h8, h9⟩ := (HAF.out.st.later (later b6.out HV9.out)).put (((later hbx.out (later b6.out HV9.out)).block _ hgr).trans HX.out.1) (later HX.out.2.2.1 (later hbx.out (later b6.out HV9.out))) hgw
          have HE := Lib.hid (And.intro h7 (And.intro h8 h9))
          clear h7 h8 h9
          go_wp2_with fail
          go_roundw
          case rel => exact ⟨k + 1, A9, n9, c9, by omega, by go_num, by rw [HX.out.2.2.2]; exact HE.out.1, by rw [HX.out.2.2.2]; exact HE.out.2.1, HE.out.2.2⟩
          case measure => simp [intOf]; omega
    · obtain rfl : k = n := by omega
      have HB := Lib.hid hb
      clear hb hS hrow
      go_wp2_with fail
      go_ret
      exact ⟨rfl, HB.out⟩
end Go.Proofs.Ytdjgndnllaingaa.TrW
