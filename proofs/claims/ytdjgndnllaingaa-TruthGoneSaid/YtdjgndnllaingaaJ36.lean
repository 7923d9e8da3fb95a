/-
  truth.delete: THE WALK. (Under way.)
-/
import Derived.Test.YtdjgndnllaingaaJ35
/-
  truth.delete: THE WALK. (Under way.)
-/
namespace Go.Proofs.Ytdjgndnllaingaa.TrW
set_option linter.unusedVariables false
set_option linter.unusedSimpArgs false
open Go.RowKit Go.Shelf LabM LbM LabW FrW TrM
set_option maxRecDepth 20000 in
set_option maxHeartbeats 8000000 in
theorem delete_do (d : Nat) (A : Option Addr) (n c : Nat) (hs : List SerH) (f gen : Int) (o : OpH) (w : World) (hd : DAt w d A n c f gen o (.slice none 0 0)) (hst : StV w A n c hs f) (ho : OkO w o) (hk : o.kd = 1) :
    Calls Try.prog 22 #[.pointer (some ⟨d, 0, none⟩)] w (Deed (doM (hs.map absR, f) (absO o) gen) w d gen o) := by
  have hdlt := hd.lt
  obtain ⟨w0, h0⟩ : ∃ w0, w.alloc (.cells (ansRow 0 0 none 0 0) 31 (0, 0)) = w0 := ⟨_, rfl⟩
  have hb0 : Below w.heap.size w w0 := by rw [← h0]; exact (Below.refl _ _).alloc (Nat.le_refl _) _
  have hz0 : w0.heap.size = w.heap.size + 1 := by rw [← h0]; simp
  have hr0 : w0.heap[w.heap.size]? = some (.cells (ansRow 0 0 none 0 0) 31 (0, 0)) := by rw [← h0]; exact heap_alloc_new w _
  have HD := Lib.hid (fun (W : World) (hW : Below w.heap.size w W) => hd.later hW)
  have KS := Lib.hid (asked_any d A n c f gen o (.slice none 0 0) w0 (hd.later hb0) (ho.later hb0))
  have HR := Lib.hid (And.intro hb0 hr0)
  have HH := Lib.hid (And.intro hd (And.intro hst ho))
  have hr0' := hr0
  unfold ansRow at h0 hr0'
  clear hb0 hr0 hd
  by_cases hti : askedB (absO o) = false
  · rw [show doM (hs.map absR, f) (absO o) gen = ((hs.map absR, f), (1, 0, []), []) from (do_del (o := absO o) hk).trans (if_pos hti)]
    obtain ⟨Q, hQ⟩ : ∃ Q, Deed ((hs.map absR, f), (1, 0, []), []) w d gen o = Q := ⟨_, rfl⟩
    rw [hQ]
    have HFIN := Lib.hid (fun (W1 : World) (hb : Below w.heap.size w W1) =>
      (by rw [← hQ]; exact Deed.still HH.out.1 HH.out.2.1 (below_setRow hb (Nat.le_refl _) (ansRow 1 0 none 0 0)) none 0 0 [] (Sers.nil _) : Q (.returned (.agg #[.int .i64 1, .int .i64 0, .slice none 0 0])) (W1.setRow w.heap.size (ansRow 1 0 none 0 0))))
    rw [hti] at KS
    clear hQ hst ho
    go_enter Try.func22, Try.ntmps22
    go_wp2_with fail
    refine KS.out.mono ?_
    rintro e w1 ⟨rfl, hb1⟩
    have hr1 := (hb1.block _ (by omega)).trans hr0'
    have HF2 := Lib.hid (HFIN.out w1 (later HR.out.1 hb1))
    unfold ansRow at HF2
    clear hb1 hr0'
    go_wp2_with (refine wpList_store_row rfl 31 _ _ rfl w.heap.size #[.int .i64 1, .int .i64 0, .slice none 0 0] rfl rfl 31 _ hr1 info_A rfl (by simp [Value.oneCell']) ?_)
    have hr3 := setRow_heap w1 w.heap.size _ #[.int .i64 1, .int .i64 0, .slice none 0 0] 31 (0, 0) hr1
    exact bodyPost_ret (v := .agg #[.int .i64 1, .int .i64 0, .slice none 0 0]) (results_cell_row (Try.results22) _ _ w.heap.size 31 _ (0, 0) _ rfl hr3 Try.underlying31 rfl info_A) rfl HF2.out
  have hti' : askedB (absO o) = true := by simpa using hti
  rw [hti'] at KS
  rw [show doM (hs.map absR, f) (absO o) gen = (((hs.map absR).map (delS (absO o)), f), (0, (((((hs.map absR).filter (hitB (absO o))).map (delN (absO o))).sum : Nat) : Int), []), ((hs.map absR).filter (hitB (absO o))).map (delR (absO o))) from (do_del (o := absO o) hk).trans (if_neg hti)]
  have HL := Lib.hid hst.sers
  have hn20 := hst.n20
  have KC := Lib.hid (fun (W : World) (hW : Below w.heap.size w W) => cloneR_any A n c hs W (hst.later hW).sers.row (by omega))
  have hd0 := HH.out.1
  obtain ⟨l, hll⟩ : ∃ l, hs.map absR = l := ⟨_, rfl⟩
  have HLL := Lib.hid hll
  rw [hll]
  obtain ⟨Q, hQ⟩ : ∃ Q, Deed ((l.map (delS (absO o)), f), (0, (((((l.filter (hitB (absO o))).map (delN (absO o))).sum : Nat)) : Int), []), (l.filter (hitB (absO o))).map (delR (absO o))) w d gen o = Q := ⟨_, rfl⟩
  rw [hQ]
  have HQ := Lib.hid hQ
  clear hll hQ
  have HTI := Lib.hid (And.intro hti hti')
  clear hti hti'
  go_enter Try.func22, Try.ntmps22
  go_wp2_with fail
  refine KS.out.mono ?_
  rintro e w1 ⟨rfl, hb1⟩
  have hr1 := (hb1.block _ (by omega)).trans hr0'
  have hbw1 := later HR.out.1 hb1
  obtain ⟨⟨x0, x1⟩, -⟩ := (HD.out _ hbw1).cells
  have H1 := Lib.hid (And.intro hbw1 hr1)
  clear hb1 hr0' hr1 hbw1 h0 hst ho
  go_wp2_with fail
  refine (KC.out _ H1.out.1).mono ?_
  rintro e w2 ⟨v, rfl, hown, hb2⟩
  obtain ⟨A', c', rfl, -, hcv⟩ := Comes.of_own (okA := fun _ => True) hown encR_len (by decide) (fun _ _ => trivial)
  have hcap' : c' ≤ 9223372036854775807 := hcv.cap
  have hle' := hcv.le
  have hbw2 := later H1.out.1 hb2
  have hd2 := HD.out _ hbw2
  have g0 := hd2.cells.1.1
  have gf := hd2.frozen 0
  have hz1 : w.heap.size < w1.heap.size := (Array.getElem?_eq_some_iff.1 H1.out.2).1
  have hans2 := (hb2.block _ hz1).trans H1.out.2
  obtain ⟨w3, hw3⟩ : ∃ w3, w2.setCell ⟨d, 0, none⟩ (.slice A' n c') = w3 := ⟨_, rfl⟩
  have ho3 : ∀ j, j ≠ d → w3.heap[j]? = w2.heap[j]? := fun j hj => by rw [← hw3]; exact heap_setCell_other _ _ _ _ hj
  have hD : DelW w w3 d gen o f A' n c' (none, 0, 0) hs [] := by
    refine ⟨⟨?_, ?_, ?_, by rw [← hw3]; simp; exact hbw2.size, fun j hj hne => (ho3 j (fun e => hne (by rw [e]))).trans (hbw2.block j hj)⟩, by rw [← hw3]; exact hd2.set0 _ _ _, ?_, World.ownsRow_nil _ _ _ _, ?_, (fun r hr => absurd hr List.not_mem_nil), (ho3 _ (by omega)).trans hans2⟩
    · rw [← hw3]; exact hbw2.os
    · rw [← hw3]; exact hbw2.tape
    · rw [← hw3]; exact hbw2.output
    · exact own_same (hown.mono hz1) (fun j hj => ho3 j (by have := (own_lt' hown j hj).1; omega))
    · intro x hx
      have := HL.out.ok x hx
      exact ⟨this.lab, .inl this.sam, this.last⟩
  have HDW := Lib.hid hD
  obtain ⟨⟨c0, c1⟩, -⟩ := HDW.out.dat.cells
  clear x0 x1 hown hb2 hcv hbw2 hd2 hans2 ho3 hD KC KS hd0
  go_wp2_with fail
  clear c0 c1 hw3 g0 gf
  go_loopw [3, 27] (fun v3 v27 wr => ∃ (k : Nat) (a : Option Addr × Nat × Nat) (G : List SerH) (RS : List RecH), k ≤ n ∧ v27 = .int .i64 k ∧ v3 = .int .i64 (((((l.take k).filter (hitB (absO o))).map (delN (absO o))).sum : Nat) : Int) ∧ G.map absR = upTo (delS (absO o)) l k ∧ RS.map absC = ((l.take k).filter (hitB (absO o))).map (delR (absO o)) ∧ RS.length ≤ k ∧ DelW w wr d gen o f A' n c' a G RS) (fun _ v27 _ => n - (intOf v27).toNat)
  case atStart => exact ⟨0, (none, 0, 0), hs, [], Nat.zero_le _, rfl, rfl, by rw [upTo_zero]; exact HLL.out, rfl, Nat.le_refl _, HDW.out⟩
  case round =>
    obtain ⟨k, a, G, RS, hk, rfl, rfl, hG, hR, hRk, hD⟩ := hrel
    have hln : l.length = n := by rw [← HLL.out, List.length_map]; exact HL.out.row.len
    have hGn : G.length = n := by
      have h2 := congrArg List.length hG
      rw [List.length_map] at h2
      rw [h2]; unfold upTo; simp; omega
    by_cases hlt : k < n
    · have hkG : k < G.length := by omega
      have hkl : k < l.length := by omega
      have hxk : absR G[k] = l[k] := by
        have h3 : k < (upTo (delS (absO o)) l k).length := by rw [← hG, List.length_map]; exact hkG
        rw [← upTo_at (delS (absO o)) l k hkl h3]
        simp only [← hG, List.getElem_map]
      obtain ⟨gb, cp, hv, -, -⟩ := hD.row.form (by omega)
      injection hv with hA' _ hc'
      subst hA' hc'
      have hat : ∀ (W : World) (j : Nat) (u : Value), j < 3 → DelW w W d gen o f (some ⟨gb, 0, none⟩) n c' a G RS → (encR G[k])[j]? = some u → W.cell? ⟨gb, k * 3 + j, none⟩ = some u := fun W j u hj h hu => by
        rw [h.row.cellAt (k * 3 + j) (by have := h.row.1; have := flatMap_len encR_len G; omega), flatMap_at encR_len G k _ (List.getElem?_eq_getElem hkG) j (by omega)]; exact hu
      have hc0 := hat wr 0 _ (by omega) hD rfl
      have hc1 := hat wr 1 _ (by omega) hD rfl
      have hc2 := hat wr 2 _ (by omega) hD rfl
      have hx := hD.okR (a0 := (none, 0, 0)) HH.out.1 (List.getElem_mem hkG)
      have hfw := few_of_check ((HH.out.2.1.valid.right l[k] (by rw [HLL.out]; exact List.getElem_mem hkl)).lab)
      have hsm := (HH.out.2.1.valid.right l[k] (by rw [HLL.out]; exact List.getElem_mem hkl)).len
      have HSTO := Lib.hid (fun (W : World) (h : DelW w W d gen o f (some ⟨gb, 0, none⟩) n c' a G RS) (b : Option Addr × Nat × Nat) (R : List Sam) h1 h2 => h.stored hdlt hkG b (S := R) h1 h2)
      have HDX := Lib.hid (And.intro hD (And.intro hG (And.intro hR (And.intro hRk hGn))))
      obtain ⟨x, hxe⟩ : ∃ x, G[k] = x := ⟨_, rfl⟩
      rw [hxe] at hxk hx hc0 hc1 hc2
      have HXE := Lib.hid hxe
      rw [← hxk] at hfw hsm
      have HXK := Lib.hid hxk
      have hlabG := (hD.okG _ (List.getElem_mem hkG)).lab
      clear hat hD hG hR hRk hxe hxk hGn
      rw [HXE.out] at hlabG
      obtain ⟨⟨⟨A1, n1, c1⟩, L⟩, ⟨⟨A2, n2, c2⟩, S⟩, T⟩ := x
      have HOKC := Lib.hid (⟨hlabG, hfw, HH.out.2.2.t, (show (0 : Int) ≤ 0 ∧ (0 : Int) < 18446744073709551616 by decide)⟩ : okC w (1, ((A1, n1, c1), L), o.t, o.te, 0))
      clear hlabG
      unfold hdV at hc0 hc1
      have hxs := hx.sam
      have hxl := hx.lab
      have hxt := hx.last
      simp only [Nat.add_zero] at hxs hxl hxt hc0 hc1 hc2
      have hfl := ((fewB_iff L).1 hfw).1
      have hsl := hxs.len
      have hL2 := hxl.len
      have hsm2 : S.length ≤ 200 := hsm
      obtain ⟨wA, hwA⟩ : ∃ wA, wr.alloc (.cells #[.slice A1 n1 c1, .slice A2 n2 c2, .int .i64 T] 48 (0, 0)) = wA := ⟨_, rfl⟩
      have hbA : Below wr.heap.size wr wA := by rw [← hwA]; exact (Below.refl _ _).alloc (Nat.le_refl _) _
      have hrA : wA.heap[wr.heap.size]? = some (.cells #[.slice A1 n1 c1, .slice A2 n2 c2, .int .i64 T] 48 (0, 0)) := by rw [← hwA]; exact heap_alloc_new wr _
      have hzA : wr.heap.size < wA.heap.size := (Array.getElem?_eq_some_iff.1 hrA).1
      have y1 : wA.cell? ⟨wr.heap.size, 1, none⟩ = some (.slice A2 n2 c2) := by rw [cell_of_row _ _ _ _ _ _ hrA]; rfl
      have hDA := HDX.out.1.later hbA
      obtain ⟨-, -, -, -, -, x6, x7, -⟩ := hDA.dat.cells
      have KB := Lib.hid (without_any A2 n2 c2 S o.t o.te wA.drew (hxs.later ⟨hbA.os, hbA.tape, hbA.output, hbA.size, hbA.block⟩) (by omega))
      have i0 : (0 : Int) ≤ (k : Int) := by omega
      have i1 : (k : Int) < (n : Int) := by omega
      have HX := Lib.hid (And.intro hxs (And.intro hxl (And.intro hxt (And.intro hbA (And.intro hrA hDA)))))
      clear hx hfw hsm hxs hxl hxt hbA hrA hDA
      go_wp2_with fail
      go_still_tail 12, (by kernel_rfl)
      go_wp2_with fail
      refine KB.out.mono ?_
      rintro e w1 ⟨v, rfl, hown1, hb1'⟩
      have hb1 : Below wA.heap.size wA w1 := ⟨hb1'.os, hb1'.tape, hb1'.output, hb1'.size, hb1'.block⟩
      replace hown1 : w1.ownsRow wA.heap.size 51 2 v (S.filter (fun y => !insideB o.t o.te y)).length ((S.filter (fun y => !insideB o.t o.te y)).flatMap encS) := hown1
      obtain ⟨hxs, hxl, hxt, hbA, hrA, hDA⟩ := HX.out
      obtain ⟨A3, c3, rfl, hm3, hc3⟩ := Comes.of_own hown1 (fun _ => rfl) (by decide) (fun y hy => hxs.ok y (List.mem_filter.1 hy).1)
      have hml2 : (S.filter (fun y => !insideB o.t o.te y)).length ≤ S.length := List.length_filter_le ..
      obtain ⟨R, hRR⟩ : ∃ R, S.filter (fun y => !insideB o.t o.te y) = R := ⟨_, rfl⟩
      have hRok : ∀ y ∈ R, okS y := fun y hy => hxs.ok y (by rw [← hRR] at hy; exact (List.mem_filter.1 hy).1)
      rw [hRR] at hml2 hc3 hm3 hown1
      rw [hRR]
      obtain ⟨m, hm⟩ : ∃ m, R.length = m := ⟨_, rfl⟩
      rw [hm] at hml2 hc3 hm3 hown1
      rw [hm]
      have hHIT : hitB (absO o) l[k] = (allB o.ms.2 L && !decide (m = n2)) := by
        rw [← HXK.out]
        show (allB o.ms.2 L && !decide ((S.filter (fun y => !insideB o.t o.te y)).length = S.length)) = _
        rw [hRR, hm, hsl]
      have hDELS : hitB (absO o) l[k] = true → delS (absO o) l[k] = absR ((((A1, n1, c1), L), ((A3, m, c3), R), T) : SerH) := fun h => by
        unfold delS; rw [if_pos h, ← HXK.out]
        show (L, S.filter (fun y => !insideB o.t o.te y), T) = _
        rw [hRR]; rfl
      have hDELN : delN (absO o) l[k] = n2 - m := by
        rw [← HXK.out]
        show S.length - (S.filter (fun y => !insideB o.t o.te y)).length = _
        rw [hRR, hm, hsl]
      have hDELR : delR (absO o) l[k] = absC ((1, ((A1, n1, c1), L), o.t, o.te, 0) : RecH) := by rw [← HXK.out]; rfl
      have hD1 := hDA.later hb1
      have hr1 := (hb1.block _ hzA).trans hrA
      have hbr1 : Below wr.heap.size wr w1 := later hbA hb1
      have hz1w : wr.heap.size < w1.heap.size := (Array.getElem?_eq_some_iff.1 hr1).1
      have hok1 := hD1.okO (a0 := (none, 0, 0)) HH.out.1 HH.out.2.2
      have KA := Lib.hid (LabW.all_any o.ms.1.1 o.ms.1.2.1 o.ms.1.2.2 o.ms.2 A1 n1 c1 L w1.drew (hok1.ms.later (below_self_drew w1)) ((hxl.later hbr1).later (below_self_drew w1)) (by have := HH.out.2.2.ms.len; have := HH.out.2.2.fewm; omega) (by omega))
      obtain ⟨-, -, -, -, x5, -⟩ := hD1.dat.cells
      unfold hdV at x5
      have y0 : w1.cell? ⟨wr.heap.size, 0, none⟩ = some (.slice A1 n1 c1) := by rw [cell_of_row _ _ _ _ _ _ hr1]; rfl
      have y1' : w1.cell? ⟨wr.heap.size, 1, none⟩ = some (.slice A2 n2 c2) := by rw [cell_of_row _ _ _ _ _ _ hr1]; rfl
      have K2 := Lib.hid (fun (W : World) (hb : Below w1.drew.heap.size w1.drew W) =>
        have hb' : Below w1.heap.size w1 W := ⟨hb.os, hb.tape, hb.output, hb.size, hb.block⟩
        have h5 := (hD1.later hb').dat.cells
        have hrW := (hb'.block _ hz1w).trans hr1
        (⟨h5.2.2.2.2.1, by rw [cell_of_row _ _ _ _ _ _ hrW]; rfl, by rw [cell_of_row _ _ _ _ _ _ hrW]; rfl⟩ : W.cell? ⟨d, 5, none⟩ = some (.slice o.ms.1.1 o.ms.1.2.1 o.ms.1.2.2) ∧ W.cell? ⟨wr.heap.size, 0, none⟩ = some (.slice A1 n1 c1) ∧ W.cell? ⟨wr.heap.size, 1, none⟩ = some (.slice A2 n2 c2)))
      have HY := Lib.hid (And.intro hHIT (And.intro hDELS (And.intro hDELN (And.intro hDELR (And.intro hD1 (And.intro hr1 (And.intro hown1 hRok)))))))
      clear hown1 hb1 hb1' hxs hxl hxt hbA hrA hDA hc3 hHIT hDELS hDELN hDELR hD1 hr1 hbr1 hok1 x6 x7 y1 KB HX hRok
      have hn200 : n2 ≤ 200 := by omega
      cases hal : allB o.ms.2 L
      · rw [hal] at KA
        have HAL := Lib.hid hal
        clear hal
        have hno : hitB (absO o) l[k] = false := by rw [HY.out.1, HAL.out]; rfl
        have HNO := Lib.hid hno
        clear hno
        · go_wp2_with fail
          refine wp_region_held_drew (S := (fun W : World => W.cell? ⟨d, 5, none⟩ = some (.slice o.ms.1.1 o.ms.1.2.1 o.ms.1.2.2) ∧ W.cell? ⟨wr.heap.size, 0, none⟩ = some (.slice A1 n1 c1) ∧ W.cell? ⟨wr.heap.size, 1, none⟩ = some (.slice A2 n2 c2))) (by kernel_rfl) ⟨x5, y0, y1'⟩ (fun hHeld => ?_)
          refine wpAnyH_take (i := 0) (v := ?_) rfl (by kernel_rfl) (by kernel_rfl) (by kernel_rfl) (fun _ _ _ h => h) (Or.inl ⟨by rfl, ?_⟩) (by assumption) ?_
          rotate_left
          · intro w hSw
            (try dsimp only at hSw)
            go_simp
            (try with_reducible rfl)
          (try simp only [Act.put, List.getElem_toArray, List.getElem_cons_succ, List.getElem_cons_zero, List.setIfInBounds_toArray, List.set_cons_zero, List.set_cons_succ])
          refine wpAnyH_take (i := 1) (v := ?_) rfl (by kernel_rfl) (by kernel_rfl) (by kernel_rfl) (fun _ _ _ h => h) (Or.inl ⟨by rfl, ?_⟩) (by assumption) ?_
          rotate_left
          · intro w hSw
            (try dsimp only at hSw)
            go_simp
            (try with_reducible rfl)
          (try simp only [Act.put, List.getElem_toArray, List.getElem_cons_succ, List.getElem_cons_zero, List.setIfInBounds_toArray, List.set_cons_zero, List.set_cons_succ])
          refine wpAnyH_take (i := 2) (v := ?_) rfl (by kernel_rfl) (by kernel_rfl) (by kernel_rfl) (fun _ _ _ h => h) (Or.inl ⟨by rfl, ?_⟩) (by assumption) ?_
          rotate_left
          · intro w hSw
            (try dsimp only at hSw)
            go_simp
            (try with_reducible rfl)
          (try simp only [Act.put, List.getElem_toArray, List.getElem_cons_succ, List.getElem_cons_zero, List.setIfInBounds_toArray, List.set_cons_zero, List.set_cons_succ])
          refine wpAnyH_take (i := 3) (v := ?_) rfl (by kernel_rfl) (by kernel_rfl) (by kernel_rfl) (fun _ _ _ h => h) (Or.inl ⟨by rfl, ?_⟩) (by assumption) ?_
          rotate_left
          · intro w hSw
            (try dsimp only at hSw)
            go_simp
            (try with_reducible rfl)
          (try simp only [Act.put, List.getElem_toArray, List.getElem_cons_succ, List.getElem_cons_zero, List.setIfInBounds_toArray, List.set_cons_zero, List.set_cons_succ])
          refine wpAnyH_take (i := 4) (v := ?_) rfl (by kernel_rfl) (by kernel_rfl) (by kernel_rfl) (fun _ _ _ h => h) (Or.inl ⟨by rfl, ?_⟩) (by assumption) ?_
          rotate_left
          · intro w hSw
            (try dsimp only at hSw)
            go_simp
            (try with_reducible rfl)
          (try simp only [Act.put, List.getElem_toArray, List.getElem_cons_succ, List.getElem_cons_zero, List.setIfInBounds_toArray, List.set_cons_zero, List.set_cons_succ])
          refine wpAnyH_take (i := 5) (v := ?_) rfl (by kernel_rfl) (by kernel_rfl) (by kernel_rfl) (fun _ _ _ h => h) (Or.inl ⟨by rfl, ?_⟩) (by assumption) ?_
          rotate_left
          · intro w hSw
            (try dsimp only at hSw)
            go_simp
            (try with_reducible rfl)
          (try simp only [Act.put, List.getElem_toArray, List.getElem_cons_succ, List.getElem_cons_zero, List.setIfInBounds_toArray, List.set_cons_zero, List.set_cons_succ])
          refine wpAnyH_take (i := 6) (v := ?_) rfl (by kernel_rfl) (by kernel_rfl) (by kernel_rfl) (fun _ _ _ h => h) (Or.inl ⟨by rfl, ?_⟩) (by assumption) ?_
          rotate_left
          · intro w hSw
            (try dsimp only at hSw)
            go_simp
            (try with_reducible rfl)
          (try simp only [Act.put, List.getElem_toArray, List.getElem_cons_succ, List.getElem_cons_zero, List.setIfInBounds_toArray, List.set_cons_zero, List.set_cons_succ])
          refine wpAnyH_ready (rs := [7]) (by kernel_rfl) (by simp) ?_
          refine AllReadyH.cons rfl (fun K hK => ?_) AllReadyH.nil
          go_simp
          go_at_call 46
          refine KA.out.mono ?_
          rintro e w2 ⟨rfl, hb2⟩
          (try go_wp2_with fail)
          refine hK.out _ _ (K2.out _ hb2) (fun hHeld2 => ?_)
          clear hK K hHeld
          (try simp only [Act.put, List.setIfInBounds_toArray, List.set_cons_zero, List.set_cons_succ])
          refine wpAnyH_take (i := 8) (v := ?_) rfl (by kernel_rfl) (by kernel_rfl) (by kernel_rfl) (fun _ _ _ h => h) (Or.inl ⟨by rfl, ?_⟩) (by assumption) ?_
          rotate_left
          · intro w hSw
            (try dsimp only at hSw)
            go_simp
            (try with_reducible rfl)
          (try simp only [Act.put, List.getElem_toArray, List.getElem_cons_succ, List.getElem_cons_zero, List.setIfInBounds_toArray, List.set_cons_zero, List.set_cons_succ])
          refine wpAnyH_take (i := 9) (v := ?_) rfl (by kernel_rfl) (by kernel_rfl) (by kernel_rfl) (fun _ _ _ h => h) (Or.inl ⟨by rfl, ?_⟩) (by assumption) ?_
          rotate_left
          · intro w hSw
            (try dsimp only at hSw)
            go_simp
            (try with_reducible rfl)
          (try simp only [Act.put, List.getElem_toArray, List.getElem_cons_succ, List.getElem_cons_zero, List.setIfInBounds_toArray, List.set_cons_zero, List.set_cons_succ])
          refine wpAnyH_take (i := 10) (v := undef) rfl (by kernel_rfl) (by kernel_rfl) (by kernel_rfl) (fun _ _ _ h => h) (Or.inr ⟨by simp [Region.wanted, yielded], rfl⟩) (by assumption) ?_
          (try simp only [Act.put, List.getElem_toArray, List.getElem_cons_succ, List.getElem_cons_zero, List.setIfInBounds_toArray, List.set_cons_zero, List.set_cons_succ])
          refine wpAnyH_take (i := 11) (v := undef) rfl (by kernel_rfl) (by kernel_rfl) (by kernel_rfl) (fun _ _ _ h => h) (Or.inr ⟨by simp [Region.wanted, yielded], rfl⟩) (by assumption) ?_
          (try simp only [Act.put, List.getElem_toArray, List.getElem_cons_succ, List.getElem_cons_zero, List.setIfInBounds_toArray, List.set_cons_zero, List.set_cons_succ])
          refine wpAnyH_take (i := 12) (v := undef) rfl (by kernel_rfl) (by kernel_rfl) (by kernel_rfl) (fun _ _ _ h => h) (Or.inr ⟨by simp [Region.wanted, yielded], rfl⟩) (by assumption) ?_
          (try simp only [Act.put, List.getElem_toArray, List.getElem_cons_succ, List.getElem_cons_zero, List.setIfInBounds_toArray, List.set_cons_zero, List.set_cons_succ])
          refine wpAnyH_take (i := 13) (v := undef) rfl (by kernel_rfl) (by kernel_rfl) (by kernel_rfl) (fun _ _ _ h => h) (Or.inr ⟨by simp [Region.wanted, yielded], rfl⟩) (by assumption) ?_
          (try simp only [Act.put, List.getElem_toArray, List.getElem_cons_succ, List.getElem_cons_zero, List.setIfInBounds_toArray, List.set_cons_zero, List.set_cons_succ])
          refine wpAnyH_take (i := 14) (v := undef) rfl (by kernel_rfl) (by kernel_rfl) (by kernel_rfl) (fun _ _ _ h => h) (Or.inr ⟨by simp [Region.wanted, yielded], rfl⟩) (by assumption) ?_
          (try simp only [Act.put, List.getElem_toArray, List.getElem_cons_succ, List.getElem_cons_zero, List.setIfInBounds_toArray, List.set_cons_zero, List.set_cons_succ])
          refine wpAnyH_take (i := 15) (v := undef) rfl (by kernel_rfl) (by kernel_rfl) (by kernel_rfl) (fun _ _ _ h => h) (Or.inr ⟨by simp [Region.wanted, yielded], rfl⟩) (by assumption) ?_
          (try simp only [Act.put, List.getElem_toArray, List.getElem_cons_succ, List.getElem_cons_zero, List.setIfInBounds_toArray, List.set_cons_zero, List.set_cons_succ])
          refine wpAnyH_take (i := 16) (v := ?_) rfl (by kernel_rfl) (by kernel_rfl) (by kernel_rfl) (fun _ _ _ h => h) (Or.inl ⟨by rfl, ?_⟩) (by assumption) ?_
          rotate_left
          · intro w hSw
            (try dsimp only at hSw)
            go_simp
            (try with_reducible rfl)
          (try simp only [Act.put, List.getElem_toArray, List.getElem_cons_succ, List.getElem_cons_zero, List.setIfInBounds_toArray, List.set_cons_zero, List.set_cons_succ])
          refine wpAnyH_done (by kernel_rfl) ?_ _
          have hD2 := HY.out.2.2.2.2.1.later (show Below w1.heap.size w1 w2 from ⟨hb2.os, hb2.tape, hb2.output, hb2.size, hb2.block⟩)
          have HD2 := Lib.hid hD2
          clear hD2 hb2 hHeld2 K2 KA x5 y0 y1'
          go_wp2_with fail
          go_roundw
          case rel =>
            refine ⟨k + 1, a, G, RS, by omega, by go_num, by rw [sum_snocF _ _ l k hkl, HNO.out]; rfl, ?_, ?_, by have := HDX.out.2.2.2.1; omega, HD2.out⟩
            · rw [HDX.out.2.1]; exact upTo_same _ l k hkl (by unfold delS; rw [if_neg (by rw [HNO.out]; decide)])
            · rw [HDX.out.2.2.1, snocFM _ _ l k hkl, HNO.out, if_neg (by decide), List.append_nil]
          case measure => simp [intOf]; omega
      · rw [hal] at KA
        have HAL := Lib.hid hal
        clear hal
        by_cases hmn : m = n2
        · obtain rfl : n2 = m := hmn.symm
          have hno : hitB (absO o) l[k] = false := by rw [HY.out.1, HAL.out]; simp
          have HNO := Lib.hid hno
          clear hno
          go_wp2_with fail
          go_region_held3 (fun W : World => W.cell? ⟨d, 5, none⟩ = some (.slice o.ms.1.1 o.ms.1.2.1 o.ms.1.2.2) ∧ W.cell? ⟨wr.heap.size, 0, none⟩ = some (.slice A1 n1 c1) ∧ W.cell? ⟨wr.heap.size, 1, none⟩ = some (.slice A2 n2 c2))
            (first | exact ⟨x5, y0, y1'⟩ | exact K2.out _ (by assumption))
            (first
            | (go_at_call 46; refine KA.out.mono ?_; rintro e w2 ⟨rfl, hb2⟩; have HB2 := Lib.hid hb2))
          rename_i hh
          clear hh
          have hb2x := HB2.out
          have hD2 := HY.out.2.2.2.2.1.later (show Below w1.heap.size w1 w2 from ⟨hb2x.os, hb2x.tape, hb2x.output, hb2x.size, hb2x.block⟩)
          have HD2 := Lib.hid hD2
          clear hD2 hb2 hb2x K2 KA x5 y0 y1'
          go_wp2_with fail
          go_roundw
          case rel =>
            refine ⟨k + 1, a, G, RS, by omega, by go_num, by rw [sum_snocF _ _ l k hkl, HNO.out]; rfl, ?_, ?_, by have := HDX.out.2.2.2.1; omega, HD2.out⟩
            · rw [HDX.out.2.1]; exact upTo_same _ l k hkl (by unfold delS; rw [if_neg (by rw [HNO.out]; decide)])
            · rw [HDX.out.2.2.1, snocFM _ _ l k hkl, HNO.out, if_neg (by decide), List.append_nil]
          case measure => simp [intOf]; omega
        · have hyes : hitB (absO o) l[k] = true := by rw [HY.out.1, HAL.out, decide_eq_false hmn]; rfl
          have HYES := Lib.hid hyes
          have hne : ¬ ((m : Int) = (n2 : Int)) := by omega
          clear hyes
          go_wp2_with fail
          go_region_held3 (fun W : World => W.cell? ⟨d, 5, none⟩ = some (.slice o.ms.1.1 o.ms.1.2.1 o.ms.1.2.2) ∧ W.cell? ⟨wr.heap.size, 0, none⟩ = some (.slice A1 n1 c1) ∧ W.cell? ⟨wr.heap.size, 1, none⟩ = some (.slice A2 n2 c2))
            (first | exact ⟨x5, y0, y1'⟩ | exact K2.out _ (by assumption))
            (first
            | (go_at_call 46; refine KA.out.mono ?_; rintro e w2 ⟨rfl, hb2⟩; have HB2 := Lib.hid hb2))
          rename_i hh
          clear hh
          have hb2x := HB2.out
          have hb12 : Below w1.heap.size w1 w2 := ⟨hb2x.os, hb2x.tape, hb2x.output, hb2x.size, hb2x.block⟩
          have hD2 := HY.out.2.2.2.2.1.later hb12
          have hr2 := (hb12.block _ hz1w).trans HY.out.2.2.2.2.2.1
          have hfs := HDX.out.1.fr.size
          have hown2 := (own_later HY.out.2.2.2.2.2.2.1 hb12).mono (show w.heap.size + 1 ≤ wA.heap.size by have := (Array.getElem?_eq_some_iff.1 HDX.out.1.ans).1; omega)
          obtain ⟨w3, e3, ⟨⟨v9, p1⟩, p2⟩, hD3⟩ := HSTO.out w2 hD2 (A3, m, c3) R hown2 HY.out.2.2.2.2.2.2.2
          obtain ⟨⟨x0, x1⟩, -⟩ := hD2.dat.cells
          have hgb := (own_lt' HDX.out.1.row gb rfl).2
          have hr3 := (show w3.heap[wr.heap.size]? = w2.heap[wr.heap.size]? by rw [← e3]; exact heap_setCell_other _ _ _ _ (show wr.heap.size ≠ gb by omega)).trans hr2
          obtain ⟨wx, W2, w5, a1, a2, a3, e4, hap, e5, b4, ⟨⟨u1, b6⟩, b7⟩, hdx, hd2', hbx, hD5, hkk⟩ := hD3.more hdlt (by have := HDX.out.2.2.2.1; omega) HOKC.out
          obtain ⟨-, -, -, -, -, x6, x7, -, x10⟩ := hD3.dat.cells
          have z1 : w2.cell? ⟨wr.heap.size, 1, none⟩ = some (.slice A2 n2 c2) := by rw [cell_of_row _ _ _ _ _ _ hr2]; rfl
          have z0 : w3.cell? ⟨wr.heap.size, 0, none⟩ = some (.slice A1 n1 c1) := by rw [cell_of_row _ _ _ _ _ _ hr3]; rfl
          have hzx : wr.heap.size < w3.heap.size := (Array.getElem?_eq_some_iff.1 hr3).1
          have hkr := hkk wr.heap.size hzx (fun e => by have := (own_lt' HDX.out.1.recs _ e).2; omega)
          have H43 : w3.drew.cell? ⟨d, 6, none⟩ = some (.int .i64 o.t) ∧ w3.drew.cell? ⟨d, 7, none⟩ = some (.int .i64 o.te) ∧ w3.drew.cell? ⟨wr.heap.size, 0, none⟩ = some (.slice A1 n1 c1) := ⟨x6, x7, z0⟩
          have H4x : wx.drew.cell? ⟨d, 6, none⟩ = some (.int .i64 o.t) ∧ wx.drew.cell? ⟨d, 7, none⟩ = some (.int .i64 o.te) ∧ wx.drew.cell? ⟨wr.heap.size, 0, none⟩ = some (.slice A1 n1 c1) := ⟨hdx.cells.2.2.2.2.2.1, hdx.cells.2.2.2.2.2.2.1, (World.cell?_of_block (w := w3) (w' := wx) (hbx.block _ hzx)).trans z0⟩
          have H42 : W2.cell? ⟨d, 6, none⟩ = some (.int .i64 o.t) ∧ W2.cell? ⟨d, 7, none⟩ = some (.int .i64 o.te) ∧ W2.cell? ⟨wr.heap.size, 0, none⟩ = some (.slice A1 n1 c1) := ⟨hd2'.cells.2.2.2.2.2.1, hd2'.cells.2.2.2.2.2.2.1, (World.cell?_of_block (w := w3) (w' := W2) hkr.1).trans z0⟩
          have H45 : w5.cell? ⟨d, 6, none⟩ = some (.int .i64 o.t) ∧ w5.cell? ⟨d, 7, none⟩ = some (.int .i64 o.te) ∧ w5.cell? ⟨wr.heap.size, 0, none⟩ = some (.slice A1 n1 c1) := ⟨hD5.dat.cells.2.2.2.2.2.1, hD5.dat.cells.2.2.2.2.2.2.1, (World.cell?_of_block (w := w3) (w' := w5) (hkr.2 (by omega))).trans z0⟩
          unfold recRow hdV at e4
          unfold hdV at e3
          simp only [] at e3 e4
          have hN4 : (((l.take k).filter (hitB (absO o))).map (delN (absO o))).sum ≤ 200 * k := delN_sum _ l k (fun x hx => (HH.out.2.1.valid.right x (by rw [HLL.out]; exact hx)).len)
          obtain ⟨N, hN⟩ : ∃ N, (((l.take k).filter (hitB (absO o))).map (delN (absO o))).sum = N := ⟨_, rfl⟩
          rw [hN] at hN4
          rw [hN]
          have HN := Lib.hid hN
          have HZ := Lib.hid (And.intro hD5 hm)
          clear hD2 hD3 hD5 hr2 hr3 hown2 hb12 hb2 hb2x K2 KA x5 y0 y1' HB2 hN hm
          go_wp2_with fail
          refine wp_region_held_drew (S := (fun W : World => W.cell? ⟨d, 6, none⟩ = some (.int .i64 o.t) ∧ W.cell? ⟨d, 7, none⟩ = some (.int .i64 o.te) ∧ W.cell? ⟨wr.heap.size, 0, none⟩ = some (.slice A1 n1 c1))) (by kernel_rfl) H43 (fun hHeld => ?_)
          refine wpAnyH_take (i := 0) (v := ?_) rfl (by kernel_rfl) (by kernel_rfl) (by kernel_rfl) (fun _ _ _ h => h) (Or.inl ⟨by rfl, ?_⟩) (by assumption) ?_
          rotate_left
          · intro w hSw
            (try dsimp only at hSw)
            go_simp
            (try with_reducible rfl)
          (try simp only [Act.put, List.getElem_toArray, List.getElem_cons_succ, List.getElem_cons_zero, List.setIfInBounds_toArray, List.set_cons_zero, List.set_cons_succ])
          refine wpAnyH_take (i := 1) (v := ?_) rfl (by kernel_rfl) (by kernel_rfl) (by kernel_rfl) (fun _ _ _ h => h) (Or.inl ⟨by rfl, ?_⟩) (by assumption) ?_
          rotate_left
          · intro w hSw
            (try dsimp only at hSw)
            go_simp
            (try with_reducible rfl)
          (try simp only [Act.put, List.getElem_toArray, List.getElem_cons_succ, List.getElem_cons_zero, List.setIfInBounds_toArray, List.set_cons_zero, List.set_cons_succ])
          refine wpAnyH_take (i := 2) (v := ?_) rfl (by kernel_rfl) (by kernel_rfl) (by kernel_rfl) (fun _ _ _ h => h) (Or.inl ⟨by rfl, ?_⟩) (by assumption) ?_
          rotate_left
          · intro w hSw
            (try dsimp only at hSw)
            go_simp
            (try with_reducible rfl)
          (try simp only [Act.put, List.getElem_toArray, List.getElem_cons_succ, List.getElem_cons_zero, List.setIfInBounds_toArray, List.set_cons_zero, List.set_cons_succ])
          refine wpAnyH_take (i := 3) (v := ?_) rfl (by kernel_rfl) (by kernel_rfl) (by kernel_rfl) (fun _ _ _ h => h) (Or.inl ⟨by rfl, ?_⟩) (by assumption) ?_
          rotate_left
          · intro w hSw
            (try dsimp only at hSw)
            go_simp
            (try with_reducible rfl)
          (try simp only [Act.put, List.getElem_toArray, List.getElem_cons_succ, List.getElem_cons_zero, List.setIfInBounds_toArray, List.set_cons_zero, List.set_cons_succ])
          refine wpAnyH_take (i := 5) (v := ?_) rfl (by kernel_rfl) (by kernel_rfl) (by kernel_rfl) (fun _ _ _ h => h) (Or.inl ⟨by rfl, ?_⟩) (by assumption) ?_
          rotate_left
          · intro w hSw
            (try dsimp only at hSw)
            go_simp
            (try with_reducible rfl)
          (try simp only [Act.put, List.getElem_toArray, List.getElem_cons_succ, List.getElem_cons_zero, List.setIfInBounds_toArray, List.set_cons_zero, List.set_cons_succ])
          refine wpAnyH_take (i := 6) (v := ?_) rfl (by kernel_rfl) (by kernel_rfl) (by kernel_rfl) (fun _ _ _ h => h) (Or.inl ⟨by rfl, ?_⟩) (by assumption) ?_
          rotate_left
          · intro w hSw
            (try dsimp only at hSw)
            go_simp
            (try with_reducible rfl)
          (try simp only [Act.put, List.getElem_toArray, List.getElem_cons_succ, List.getElem_cons_zero, List.setIfInBounds_toArray, List.set_cons_zero, List.set_cons_succ])
          refine wpAnyH_take (i := 7) (v := ?_) rfl (by kernel_rfl) (by kernel_rfl) (by kernel_rfl) (fun _ _ _ h => h) (Or.inl ⟨by rfl, ?_⟩) (by assumption) ?_
          rotate_left
          · intro w hSw
            (try dsimp only at hSw)
            go_simp
            (try with_reducible rfl)
          (try simp only [Act.put, List.getElem_toArray, List.getElem_cons_succ, List.getElem_cons_zero, List.setIfInBounds_toArray, List.set_cons_zero, List.set_cons_succ])
          refine wpAnyH_take (i := 8) (v := ?_) rfl (by kernel_rfl) (by kernel_rfl) (by kernel_rfl) (fun _ _ _ h => h) (Or.inl ⟨by rfl, ?_⟩) (by assumption) ?_
          rotate_left
          · intro w hSw
            (try dsimp only at hSw)
            go_simp
            (try with_reducible rfl)
          (try simp only [Act.put, List.getElem_toArray, List.getElem_cons_succ, List.getElem_cons_zero, List.setIfInBounds_toArray, List.set_cons_zero, List.set_cons_succ])
          refine wpAnyH_take (i := 9) (v := ?_) rfl (by kernel_rfl) (by kernel_rfl) (by kernel_rfl) (fun _ _ _ h => h) (Or.inl ⟨by rfl, ?_⟩) (by assumption) ?_
          rotate_left
          · intro w hSw
            (try dsimp only at hSw)
            go_simp
            (try with_reducible rfl)
          (try simp only [Act.put, List.getElem_toArray, List.getElem_cons_succ, List.getElem_cons_zero, List.setIfInBounds_toArray, List.set_cons_zero, List.set_cons_succ])
          refine wpAnyH_take (i := 10) (v := ?_) rfl (by kernel_rfl) (by kernel_rfl) (by kernel_rfl) (fun _ _ _ h => h) (Or.inl ⟨by rfl, ?_⟩) (by assumption) ?_
          rotate_left
          · intro w hSw
            (try dsimp only at hSw)
            go_simp
            (try with_reducible rfl)
          (try simp only [Act.put, List.getElem_toArray, List.getElem_cons_succ, List.getElem_cons_zero, List.setIfInBounds_toArray, List.set_cons_zero, List.set_cons_succ])
          refine wpAnyH_take (i := 11) (v := ?_) rfl (by kernel_rfl) (by kernel_rfl) (by kernel_rfl) (fun _ _ _ h => h) (Or.inl ⟨by rfl, ?_⟩) (by assumption) ?_
          rotate_left
          · intro w hSw
            (try dsimp only at hSw)
            go_simp
            (try with_reducible rfl)
          (try simp only [Act.put, List.getElem_toArray, List.getElem_cons_succ, List.getElem_cons_zero, List.setIfInBounds_toArray, List.set_cons_zero, List.set_cons_succ])
          refine wpAnyH_take (i := 12) (v := ?_) rfl (by kernel_rfl) (by kernel_rfl) (by kernel_rfl) (fun _ _ _ h => h) (Or.inl ⟨by rfl, ?_⟩) (by assumption) ?_
          rotate_left
          · intro w hSw
            (try dsimp only at hSw)
            go_simp
            (try with_reducible rfl)
          (try simp only [Act.put, List.getElem_toArray, List.getElem_cons_succ, List.getElem_cons_zero, List.setIfInBounds_toArray, List.set_cons_zero, List.set_cons_succ])
          refine wpAnyH_take (i := 13) (v := ?_) rfl (by kernel_rfl) (by kernel_rfl) (by kernel_rfl) (fun _ _ _ h => h) (Or.inl ⟨by rfl, ?_⟩) (by assumption) ?_
          rotate_left
          · intro w hSw
            (try dsimp only at hSw)
            go_simp
            (try with_reducible rfl)
          (try simp only [Act.put, List.getElem_toArray, List.getElem_cons_succ, List.getElem_cons_zero, List.setIfInBounds_toArray, List.set_cons_zero, List.set_cons_succ])
          refine wpAnyH_take (i := 14) (v := ?_) rfl (by kernel_rfl) (by kernel_rfl) (by kernel_rfl) (fun _ _ _ h => h) (Or.inl ⟨by rfl, ?_⟩) (by assumption) ?_
          rotate_left
          · intro w hSw
            (try dsimp only at hSw)
            go_simp
            (try with_reducible rfl)
          (try simp only [Act.put, List.getElem_toArray, List.getElem_cons_succ, List.getElem_cons_zero, List.setIfInBounds_toArray, List.set_cons_zero, List.set_cons_succ])
          refine wpAnyH_take (i := 15) (v := ?_) rfl (by kernel_rfl) (by kernel_rfl) (by kernel_rfl) (fun _ _ _ h => h) (Or.inl ⟨by rfl, ?_⟩) (by assumption) ?_
          rotate_left
          · intro w hSw
            (try dsimp only at hSw)
            go_simp
            (try with_reducible rfl)
          (try simp only [Act.put, List.getElem_toArray, List.getElem_cons_succ, List.getElem_cons_zero, List.setIfInBounds_toArray, List.set_cons_zero, List.set_cons_succ])
          refine wpAnyH_take (i := 16) (v := ?_) rfl (by kernel_rfl) (by kernel_rfl) (by kernel_rfl) (fun _ _ _ h => h) (Or.inl ⟨by rfl, ?_⟩) (by assumption) ?_
          rotate_left
          · intro w hSw
            (try dsimp only at hSw)
            go_simp
            (try with_reducible rfl)
          (try simp only [Act.put, List.getElem_toArray, List.getElem_cons_succ, List.getElem_cons_zero, List.setIfInBounds_toArray, List.set_cons_zero, List.set_cons_succ])
          refine wpAnyH_take (i := 17) (v := ?_) rfl (by kernel_rfl) (by kernel_rfl) (by kernel_rfl) (fun _ _ _ h => h) (Or.inl ⟨by rfl, ?_⟩) (by assumption) ?_
          rotate_left
          · intro w hSw
            (try dsimp only at hSw)
            go_simp
            (try with_reducible rfl)
          (try simp only [Act.put, List.getElem_toArray, List.getElem_cons_succ, List.getElem_cons_zero, List.setIfInBounds_toArray, List.set_cons_zero, List.set_cons_succ])
          refine wpAnyH_ready (rs := [4, 18]) (by kernel_rfl) (by simp) ?_
          refine AllReadyH.cons rfl (fun K hK => ?_) (AllReadyH.cons rfl (fun K hK => ?_) AllReadyH.nil)
          · go_simp
            refine hK.out _ _ (H43) (fun hHeld2 => ?_)
            clear hK K
            (try simp only [Act.put, List.getElem_toArray, List.getElem_cons_succ, List.getElem_cons_zero, List.setIfInBounds_toArray, List.set_cons_zero, List.set_cons_succ])
            refine wpAnyH_ready (rs := [18]) (by kernel_rfl) (by simp) ?_
            refine AllReadyH.cons rfl (fun K hK => ?_) AllReadyH.nil
            go_simp
            (try rw [e4])
            refine hK.out _ _ (H4x) (fun hHeld2 => ?_)
            clear hK K
            (try simp only [Act.put, List.getElem_toArray, List.getElem_cons_succ, List.getElem_cons_zero, List.setIfInBounds_toArray, List.set_cons_zero, List.set_cons_succ])
            refine wpAnyH_ready (rs := [19]) (by kernel_rfl) (by simp) ?_
            refine AllReadyH.cons rfl (fun K hK => ?_) AllReadyH.nil
            refine step_append_runI (by rfl) _ _ _ _ (by rfl) _ _ (by rfl) (by rfl) (hap _) ?_
            refine hK.out _ _ (H42) (fun hHeld2 => ?_)
            clear hK K
            (try simp only [Act.put, List.getElem_toArray, List.getElem_cons_succ, List.getElem_cons_zero, List.setIfInBounds_toArray, List.set_cons_zero, List.set_cons_succ])
            refine wpAnyH_take (i := 20) (v := ?_) rfl (by kernel_rfl) (by kernel_rfl) (by kernel_rfl) (fun _ _ _ h => h) (Or.inl ⟨by rfl, ?_⟩) (by assumption) ?_
            rotate_left
            · intro w hSw
              (try dsimp only at hSw)
              go_simp
              (try with_reducible rfl)
            (try simp only [Act.put, List.getElem_toArray, List.getElem_cons_succ, List.getElem_cons_zero, List.setIfInBounds_toArray, List.set_cons_zero, List.set_cons_succ])
            refine wpAnyH_take (i := 21) (v := ?_) rfl (by kernel_rfl) (by kernel_rfl) (by kernel_rfl) (fun _ _ _ h => h) (Or.inl ⟨by rfl, ?_⟩) (by assumption) ?_
            rotate_left
            · intro w hSw
              (try dsimp only at hSw)
              go_simp
              (try with_reducible rfl)
            (try simp only [Act.put, List.getElem_toArray, List.getElem_cons_succ, List.getElem_cons_zero, List.setIfInBounds_toArray, List.set_cons_zero, List.set_cons_succ])
            refine wpAnyH_ready (rs := [22]) (by kernel_rfl) (by simp) ?_
            refine AllReadyH.cons rfl (fun K hK => ?_) AllReadyH.nil
            go_simp
            (try rw [e5])
            refine hK.out _ _ (H45) (fun hHeld2 => ?_)
            clear hK K
            (try simp only [Act.put, List.getElem_toArray, List.getElem_cons_succ, List.getElem_cons_zero, List.setIfInBounds_toArray, List.set_cons_zero, List.set_cons_succ])
            refine wpAnyH_done (by kernel_rfl) ?_ _
            go_wp2_with fail
            go_roundw
            case rel =>
              refine ⟨k + 1, (a1, a2, a3), _, _, by omega, by go_num, ?_, ?_, ?_, ?_, HZ.out.1⟩
              · rw [sum_snocF _ _ l k hkl, HYES.out, if_pos rfl, HN.out, HY.out.2.2.1]; go_num
              · rw [List.map_set, HDX.out.2.1, HXE.out, ← HY.out.2.1 HYES.out]; exact upTo_set _ l k hkl
              · rw [List.map_append, HDX.out.2.2.1, snocFM _ _ l k hkl, HYES.out, if_pos rfl, HY.out.2.2.2.1]; rfl
              · rw [List.length_append]; have := HDX.out.2.2.2.1; simp; omega
            case measure => simp [intOf]; omega
          · go_simp
            (try rw [e4])
            refine hK.out _ _ (H4x) (fun hHeld2 => ?_)
            clear hK K
            (try simp only [Act.put, List.getElem_toArray, List.getElem_cons_succ, List.getElem_cons_zero, List.setIfInBounds_toArray, List.set_cons_zero, List.set_cons_succ])
            refine wpAnyH_ready (rs := [4]) (by kernel_rfl) (by simp) ?_
            refine AllReadyH.cons rfl (fun K hK => ?_) AllReadyH.nil
            go_simp
            refine hK.out _ _ (H4x) (fun hHeld2 => ?_)
            clear hK K
            (try simp only [Act.put, List.getElem_toArray, List.getElem_cons_succ, List.getElem_cons_zero, List.setIfInBounds_toArray, List.set_cons_zero, List.set_cons_succ])
            refine wpAnyH_ready (rs := [19]) (by kernel_rfl) (by simp) ?_
            refine AllReadyH.cons rfl (fun K hK => ?_) AllReadyH.nil
            refine step_append_runI (by rfl) _ _ _ _ (by rfl) _ _ (by rfl) (by rfl) (hap _) ?_
            refine hK.out _ _ (H42) (fun hHeld2 => ?_)
            clear hK K
            (try simp only [Act.put, List.getElem_toArray, List.getElem_cons_succ, List.getElem_cons_zero, List.setIfInBounds_toArray, List.set_cons_zero, List.set_cons_succ])
            refine wpAnyH_take (i := 20) (v := ?_) rfl (by kernel_rfl) (by kernel_rfl) (by kernel_rfl) (fun _ _ _ h => h) (Or.inl ⟨by rfl, ?_⟩) (by assumption) ?_
            rotate_left
            · intro w hSw
              (try dsimp only at hSw)
              go_simp
              (try with_reducible rfl)
            (try simp only [Act.put, List.getElem_toArray, List.getElem_cons_succ, List.getElem_cons_zero, List.setIfInBounds_toArray, List.set_cons_zero, List.set_cons_succ])
            refine wpAnyH_take (i := 21) (v := ?_) rfl (by kernel_rfl) (by kernel_rfl) (by kernel_rfl) (fun _ _ _ h => h) (Or.inl ⟨by rfl, ?_⟩) (by assumption) ?_
            rotate_left
            · intro w hSw
              (try dsimp only at hSw)
              go_simp
              (try with_reducible rfl)
            (try simp only [Act.put, List.getElem_toArray, List.getElem_cons_succ, List.getElem_cons_zero, List.setIfInBounds_toArray, List.set_cons_zero, List.set_cons_succ])
            refine wpAnyH_ready (rs := [22]) (by kernel_rfl) (by simp) ?_
            refine AllReadyH.cons rfl (fun K hK => ?_) AllReadyH.nil
            go_simp
            (try rw [e5])
            refine hK.out _ _ (H45) (fun hHeld2 => ?_)
            clear hK K
            (try simp only [Act.put, List.getElem_toArray, List.getElem_cons_succ, List.getElem_cons_zero, List.setIfInBounds_toArray, List.set_cons_zero, List.set_cons_succ])
            refine wpAnyH_done (by kernel_rfl) ?_ _
            go_wp2_with fail
            go_roundw
            case rel =>
              refine ⟨k + 1, (a1, a2, a3), _, _, by omega, by go_num, ?_, ?_, ?_, ?_, HZ.out.1⟩
              · rw [sum_snocF _ _ l k hkl, HYES.out, if_pos rfl, HN.out, HY.out.2.2.1]; go_num
              · rw [List.map_set, HDX.out.2.1, HXE.out, ← HY.out.2.1 HYES.out]; exact upTo_set _ l k hkl
              · rw [List.map_append, HDX.out.2.2.1, snocFM _ _ l k hkl, HYES.out, if_pos rfl, HY.out.2.2.2.1]; rfl
              · rw [List.length_append]; have := HDX.out.2.2.2.1; simp; omega
            case measure => simp [intOf]; omega
    · obtain rfl : k = n := by omega
      have hV : Valid (G.map absR, f) := by
        rw [hG, ← hln, upTo_all, ← HLL.out]
        exact valid_del HH.out.2.1.valid (absO o)
      have hans := hD.ans
      have HE := Lib.hid (hD.deed (a0 := (none, 0, 0)) HH.out.1 hdlt hV hGn.symm (((((l.filter (hitB (absO o))).map (delN (absO o))).sum : Nat) : Int)))
      rw [hG, hR, ← hln, upTo_all, List.take_length] at HE
      rw [HQ.out] at HE
      rw [← hln, List.take_length]
      clear HQ
      generalize (((l.filter (hitB (absO o))).map (delN (absO o))).sum : Nat) = N at *
      clear hD hG hR hV
      go_wp2_with (refine wpList_store_row rfl 31 _ _ rfl w.heap.size #[.int .i64 0, .int .i64 (N : Int), .slice none 0 0] rfl rfl 31 _ hans info_A rfl (by simp [Value.oneCell']) ?_)
      have hr3 := setRow_heap wr w.heap.size _ #[.int .i64 0, .int .i64 (N : Int), .slice none 0 0] 31 (0, 0) hans
      exact bodyPost_ret (v := .agg #[.int .i64 0, .int .i64 (N : Int), .slice none 0 0]) (results_cell_row (Try.results22) _ _ w.heap.size 31 _ (0, 0) _ rfl hr3 Try.underlying31 rfl info_A) rfl HE.out
end Go.Proofs.Ytdjgndnllaingaa.TrW
