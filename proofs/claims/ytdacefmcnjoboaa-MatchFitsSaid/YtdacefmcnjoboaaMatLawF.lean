/-
  MatchFits: THE WALK.
-/
import Derived.Test.YtdacefmcnjoboaaMatLawE
import Derived.Deep.RegionHeld3
namespace Go.Proofs.Ytdacefmcnjoboaa.LabW
open Go.RowKit Go.Shelf LabM
set_option maxRecDepth 100000 in
set_option maxHeartbeats 4000000 in
theorem matchFits_all (A1 : Option Addr) (n1 c1 : Nat) (ms : List Mat) (A : Option Addr) (n c : Nat) (ls : List Hdr) (w : World) (hms : Comes w 3 encM okM A1 n1 c1 ms) (hl : Comes w 1 encH (hdrIn w) A n c ls) :
    Calls Try.prog 3 #[.slice A1 n1 c1, .slice A n c] w fun e w' => e = .returned (.bool true) ∧ Below w.heap.size w w' := by
  have HM := Lib.hid hms
  have HL := Lib.hid hl
  have hcap : c ≤ 9223372036854775807 := hl.cap
  have hle := hl.le
  have hcap1 : c1 ≤ 9223372036854775807 := hms.cap
  have hle1 := hms.le
  clear hms hl
  obtain ⟨F, hF⟩ : ∃ F, fewM ms = F := ⟨_, rfl⟩
  have HF := Lib.hid hF
  clear hF
  go_enter Try.func3, Try.ntmps3
  go_wp2_with fail
  refine (mworks_any _).mono ?_
  rintro e w1 ⟨rfl, hb1⟩
  have HB1 := Lib.hid hb1
  clear hb1
  go_wp2_with fail
  refine (fewM_any A1 n1 c1 ms _ (HM.out.later HB1.out)).mono ?_
  rw [HF.out]
  rintro e w1' ⟨rfl, rfl⟩
  cases F with
  | false =>
    go_wp2_with fail
    go_ret
    exact ⟨rfl, HB1.out⟩
  | true =>
  have m1 : n1 ≤ 10 := by rw [← HM.out.len]; exact fewM_len HF.out
  by_cases n60 : 60 < n
  · go_wp2_with fail
    go_ret
    exact ⟨rfl, HB1.out⟩
  go_wp2_with fail
  refine (rallright_any A1 n1 c1 ms _ (HM.out.later HB1.out)).mono ?_
  rintro e w2 ⟨rfl, hb2⟩
  have HB2 := Lib.hid (later HB1.out hb2)
  clear hb2
  have HCK := Lib.hid (fun W h => mcheck_any A1 n1 c1 ms W h)
  obtain ⟨R, hR⟩ : ∃ R, checkMB ms = R := ⟨_, rfl⟩
  rw [hR] at HCK ⊢
  clear hR
  cases R
  all_goals
    go_wp2_with fail
    go_loopw [9, 10, 11] (fun v9 _ _ wr => ∃ k : Nat, k ≤ n ∧ v9 = .int .i64 k ∧ Below w.heap.size w wr ∧ ∀ x ∈ ls.take k, fewL x.2 = true) (fun v9 _ _ _ => n - (intOf v9).toNat)
    case atStart => exact ⟨0, Nat.zero_le _, rfl, HB2.out, fun x hx => by simp at hx⟩
    case round =>
      obtain ⟨k, hk, rfl, ho, hfew⟩ := hrel
      have hln := HL.out.len
      by_cases hlt : k < n
      · have hkl : k < ls.length := by omega
        obtain ⟨b, o, rfl, hcs⟩ := H_cells HL.out.lies hkl
        have hc0 := hcs _ ho
        have hx := HL.out.ok _ (List.getElem_mem hkl)
        have htk := take_snocL ls k hkl
        generalize ls[k] = x at *
        obtain ⟨⟨Ax, nx, cx⟩, lx⟩ := x
        simp only [] at hc0 hcs
        have HO := Lib.hid ho
        have HT := Lib.hid (And.intro htk hfew)
        have HX := Lib.hid (show Comes w 2 encL okL Ax nx cx lx from hx)
        have HCS := Lib.hid hcs
        have i0 : (0 : Int) ≤ (k : Int) := by omega
        have i1 : (k : Int) < (n : Int) := by omega
        clear ho hln hcs hfew hx htk
        obtain ⟨G, hG⟩ : ∃ G, fewL lx = G := ⟨_, rfl⟩
        have HG := Lib.hid hG
        clear hG
        go_wp2_with fail
        refine (fewL_any Ax nx cx lx _ (HX.out.later HO.out)).mono ?_
        rw [HG.out]
        rintro e w' ⟨rfl, rfl⟩
        cases G with
        | false =>
          go_wp2_with fail
          go_ret
          exact ⟨rfl, HO.out⟩
        | true =>
          have nx10 : nx ≤ 10 := by rw [← HX.out.len]; exact fewL_len HG.out
          go_wp2_with fail
          have CA := Lib.hid (fun W (h : Below w.heap.size w W) => all_any A1 n1 c1 ms Ax nx cx lx W (HM.out.later h) (HX.out.later h) (by omega) (by omega))
          have CR := Lib.hid (fun W (h : Below w.heap.size w W) => rall_any A1 n1 c1 ms Ax nx cx lx W (HM.out.later h) (HX.out.later h) (by omega))
          obtain ⟨B, hB⟩ : ∃ B, allB ms lx = B := ⟨_, rfl⟩
          rw [hB] at CA CR
          clear hB
          have hbb : (B != B) = false := by cases B <;> rfl
          have K := Lib.hid (fun (W W' : World) (h : Below w.heap.size w W) (hb' : Below W.heap.size W W') =>
            (⟨later h hb', HCS.out _ (later h hb')⟩ : Below w.heap.size w W' ∧ W'.cell? ⟨b, o + k, none⟩ = some (.slice Ax nx cx)))
          have hS0 := K.out _ _ HO.out (below_self_drew wr)
          go_region_held3 (fun W : World => Below w.heap.size w W ∧ W.cell? ⟨b, o + k, none⟩ = some (.slice Ax nx cx))
            (first | exact hS0 | exact K.out _ _ (And.left (by assumption)) (by assumption))
            (first
              | (go_at_call 14; refine (CA.out _ (And.left (by assumption))).mono ?_; rintro e w9 ⟨rfl, hb9⟩)
              | (go_at_call 15; refine (CR.out _ (And.left (by assumption))).mono ?_; rintro e w9 ⟨rfl, hb9⟩))
          rename_i hh
          have HO9 := Lib.hid hh.1
          clear hS0 K CA CR hbb hc0 hh
          go_wp2_with fail
          go_loopw [11] (fun v11 wr => ∃ j : Nat, j ≤ n1 ∧ v11 = .int .i64 j ∧ Below w.heap.size w wr) (fun v11 _ => n1 - (intOf v11).toNat)
          case atStart => exact ⟨0, Nat.zero_le _, rfl, HO9.out⟩
          case round =>
            obtain ⟨j, hj, rfl, ho⟩ := hrel
            have hln1 := HM.out.len
            by_cases hjlt : j < n1
            · have hjl : j < ms.length := by omega
              obtain ⟨b2, o2, rfl, hcs2⟩ := M_cells HM.out.lies hjl
              have hm := HM.out.ok _ (List.getElem_mem hjl)
              generalize ms[j] = m at *
              obtain ⟨kd, nm, vl⟩ := m
              simp only [] at hcs2
              have CA := Lib.hid (fun W (h : Below w.heap.size w W) => fits_any (kd, nm, vl) hm Ax nx cx lx W (HX.out.later h) (by omega))
              have CR := Lib.hid (fun W (h : Below w.heap.size w W) => rfits_any (kd, nm, vl) hm Ax nx cx lx W (HX.out.later h) (by omega))
              obtain ⟨B2, hB2⟩ : ∃ B2, fitsB (kd, nm, vl) lx = B2 := ⟨_, rfl⟩
              rw [hB2] at CA CR
              clear hB2
              have hbb : (B2 != B2) = false := by cases B2 <;> rfl
              have K := Lib.hid (fun (W W' : World) (h : Below w.heap.size w W) (hb' : Below W.heap.size W W') =>
                (⟨later h hb', HCS.out _ (later h hb'), hcs2 _ (later h hb')⟩ : Below w.heap.size w W' ∧ W'.cell? ⟨b, o + k, none⟩ = some (.slice Ax nx cx) ∧ W'.cell? ⟨b2, o2 + j * 3, none⟩ = some (.int .i64 kd) ∧ W'.cell? ⟨b2, o2 + j * 3 + 1, none⟩ = some (.string nm) ∧ W'.cell? ⟨b2, o2 + j * 3 + 2, none⟩ = some (.string vl)))
              have hS0 := K.out _ _ ho (below_self_drew _)
              have j0 : (0 : Int) ≤ (j : Int) := by omega
              have j1 : (j : Int) < (n1 : Int) := by omega
              clear hcs2 hm ho hln1
              go_wp2_with fail
              go_region_held3 (fun W : World => Below w.heap.size w W ∧ W.cell? ⟨b, o + k, none⟩ = some (.slice Ax nx cx) ∧ W.cell? ⟨b2, o2 + j * 3, none⟩ = some (.int .i64 kd) ∧ W.cell? ⟨b2, o2 + j * 3 + 1, none⟩ = some (.string nm) ∧ W.cell? ⟨b2, o2 + j * 3 + 2, none⟩ = some (.string vl))
                (first | exact hS0 | exact K.out _ _ (And.left (by assumption)) (by assumption))
                (first
                  | (go_at_call 16; refine (CA.out _ (And.left (by assumption))).mono ?_; rintro e w9 ⟨rfl, hb9⟩)
                  | (go_at_call 17; refine (CR.out _ (And.left (by assumption))).mono ?_; rintro e w9 ⟨rfl, hb9⟩))
              rename_i hh
              have HOX := Lib.hid hh.1
              clear hS0 K CA CR hbb hh
              go_wp2_with fail
              go_roundw
              case rel => exact ⟨j + 1, by omega, by go_num, HOX.out⟩
              case measure => simp [intOf]; omega
            · obtain rfl : j = n1 := by omega
              have HOX := Lib.hid ho
              clear ho hln1
              go_wp2_with fail
              go_roundw
              case rel =>
                refine ⟨k + 1, by omega, by go_num, HOX.out, fun x hx => ?_⟩
                rw [HT.out.1] at hx
                rcases List.mem_append.1 hx with hx | hx
                · exact HT.out.2 x hx
                · rw [List.mem_singleton.1 hx]; exact HG.out
              case measure => simp [intOf]; omega
      · obtain rfl : k = n := by omega
        rw [List.take_of_length_le (by omega)] at hfew
        have hs : ∀ x ∈ ls, okH w x := fun x hx => ⟨HL.out.ok x hx, by
          have h1 := (show Comes w 2 encL okL x.1.1 x.1.2.1 x.1.2.2 x.2 from HL.out.ok x hx).len
          have h2 := fewL_len (hfew x hx)
          omega⟩
        have hs' : ∀ W, Below w.heap.size w W → ∀ x ∈ ls, okH W x := fun W hW x hx => ⟨(hs x hx).1.later hW, (hs x hx).2⟩
        have HS := Lib.hid hs'
        have HB := Lib.hid ho
        clear hs hs' ho hfew hln
        go_wp2_with fail
        refine (HCK.out _ (HM.out.later HB.out)).mono ?_
        rintro e w3 ⟨rfl, hb3⟩
        first | rw [errN_true] | rw [errN_false]
        have HB3 := Lib.hid (later HB.out hb3)
        clear hb3
        go_wp2_with fail
        refine (select_any A1 n1 c1 ms A k c ls _ (HM.out.later HB3.out) (Comes.any (HL.out.later HB3.out)) (HS.out _ HB3.out) (by omega) (by omega)).mono ?_
        rintro e w4 ⟨v4, rfl, hown4, hb4⟩
        obtain ⟨A4, c4, rfl, -, hc4⟩ := Comes.of_own (okA := fun _ => True) hown4 (fun _ => rfl) (by decide) (fun _ _ => trivial)
        have HB4 := Lib.hid (later HB3.out hb4)
        have HC4 := Lib.hid hc4
        clear hown4 hb4 hc4
        go_wp2_with fail
        refine (rselect_any A1 n1 c1 ms A k c ls _ (HM.out.later HB4.out) (Comes.any (HL.out.later HB4.out)) (HS.out _ HB4.out) (by omega)).mono ?_
        rintro e w5 ⟨v5, rfl, hown5, hb5⟩
        obtain ⟨A5, c5, rfl, -, hc5⟩ := Comes.of_own (okA := fun _ => True) hown5 (fun _ => rfl) (by decide) (fun _ _ => trivial)
        have HB5 := Lib.hid (later HB4.out hb5)
        have HC5 := Lib.hid hc5
        have HC45 := Lib.hid (HC4.out.later hb5)
        clear hown5 hb5 hc5 HC4
        go_wp2_with fail
        refine (row_any _ _ _ _ _ _ _ _ _ HC45.out HC5.out).mono ?_
        rintro e w6 ⟨rfl, hb6⟩
        rw [decide_eq_true rfl]
        have HB6 := Lib.hid (later HB5.out hb6)
        clear hb6 HC45 HC5
        go_wp2_with fail
        go_ret
        exact ⟨rfl, HB6.out⟩
end Go.Proofs.Ytdacefmcnjoboaa.LabW
