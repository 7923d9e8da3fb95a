/-
  truth.ask: THE WALK. (Printed by gen/trask.py.)
-/
import Derived.Test.YtdjgndnllaingaaJ32
/-
  truth.ask: THE WALK. (Printed by gen/trask.py.)
-/
namespace Go.Proofs.Ytdjgndnllaingaa.TrW
set_option linter.unusedVariables false
set_option linter.unusedSimpArgs false
open Go.RowKit Go.Shelf LabM LbM LabW FrW TrM
theorem snocFM {α β : Type} (p : α → Bool) (q : α → β) (l : List α) (k : Nat) (h : k < l.length) : ((l.take (k + 1)).filter p).map q = ((l.take k).filter p).map q ++ if p l[k] then [q l[k]] else [] := by
  rw [take_snocL l k h, List.filter_append, List.map_append]
  congr 1
  cases hp : p l[k] <;> simp [hp]
set_option maxRecDepth 20000 in
set_option maxHeartbeats 8000000 in
theorem ask_do (d : Nat) (A : Option Addr) (n c : Nat) (hs : List SerH) (f gen : Int) (o : OpH) (w : World) (hd : DAt w d A n c f gen o (.slice none 0 0)) (hst : StV w A n c hs f) (ho : OkO w o) (hk : o.kd = 3) :
    Calls Try.prog 24 #[.pointer (some ⟨d, 0, none⟩)] w (Deed (doM (hs.map absR, f) (absO o) gen) w d gen o) := by
  have hdlt := hd.lt
  obtain ⟨w0, h0⟩ : ∃ w0, w.alloc (.cells (ansRow 0 0 none 0 0) 31 (0, 0)) = w0 := ⟨_, rfl⟩
  have hb0 : Below w.heap.size w w0 := by rw [← h0]; exact (Below.refl _ _).alloc (Nat.le_refl _) _
  have hz0 : w0.heap.size = w.heap.size + 1 := by rw [← h0]; simp
  have hr0 : w0.heap[w.heap.size]? = some (.cells (ansRow 0 0 none 0 0) 31 (0, 0)) := by rw [← h0]; exact heap_alloc_new w _
  have HD := Lib.hid (fun (W : World) (hW : Below w.heap.size w W) => hd.later hW)
  have KS := Lib.hid (asked_any d A n c f gen o (.slice none 0 0) w0 (hd.later hb0) (ho.later hb0))
  have HR := Lib.hid (And.intro hb0 hr0)
  have HH := Lib.hid (And.intro hd (And.intro hst ho))
  have hr0' := hr0
  unfold ansRow at h0 hr0'
  clear hb0 hr0 hd
  by_cases hti : askedB (absO o) = false
  · rw [show doM (hs.map absR, f) (absO o) gen = ((hs.map absR, f), (1, 0, []), []) from (do_ask (o := absO o) hk).trans (if_pos hti)]
    obtain ⟨Q, hQ⟩ : ∃ Q, Deed ((hs.map absR, f), (1, 0, []), []) w d gen o = Q := ⟨_, rfl⟩
    rw [hQ]
    have HFIN := Lib.hid (fun (W1 : World) (hb : Below w.heap.size w W1) =>
      (by rw [← hQ]; exact Deed.still HH.out.1 HH.out.2.1 (below_setRow hb (Nat.le_refl _) (ansRow 1 0 none 0 0)) none 0 0 [] (Sers.nil _) : Q (.returned (.agg #[.int .i64 1, .int .i64 0, .slice none 0 0])) (W1.setRow w.heap.size (ansRow 1 0 none 0 0))))
    rw [hti] at KS
    clear hQ hst ho
    go_enter Try.func24, Try.ntmps24
    go_wp2_with fail
    refine KS.out.mono ?_
    rintro e w1 ⟨rfl, hb1⟩
    have hr1 := (hb1.block _ (by omega)).trans hr0'
    have HF2 := Lib.hid (HFIN.out w1 (later HR.out.1 hb1))
    unfold ansRow at HF2
    clear hb1 hr0'
    go_wp2_with (refine wpList_store_row rfl 31 _ _ rfl w.heap.size #[.int .i64 1, .int .i64 0, .slice none 0 0] rfl rfl 31 _ hr1 info_A rfl (by simp [Value.oneCell']) ?_)
    have hr3 := setRow_heap w1 w.heap.size _ #[.int .i64 1, .int .i64 0, .slice none 0 0] 31 (0, 0) hr1
    exact bodyPost_ret (v := .agg #[.int .i64 1, .int .i64 0, .slice none 0 0]) (results_cell_row (Try.results24) _ _ w.heap.size 31 _ (0, 0) _ rfl hr3 Try.underlying31 rfl info_A) rfl HF2.out
  have hti' : askedB (absO o) = true := by simpa using hti
  rw [hti'] at KS
  rw [show doM (hs.map absR, f) (absO o) gen = ((hs.map absR, f), (0, 0, ((hs.map absR).filter (askB (absO o))).map (askS (absO o))), []) from (do_ask (o := absO o) hk).trans (if_neg hti)]
  have HL := Lib.hid hst.sers
  have hcap : c ≤ 9223372036854775807 := hst.sers.row.cap
  have hle := hst.sers.row.le
  have hn20 := hst.n20
  have HSM := Lib.hid hst.small
  have HFW := Lib.hid hst.few
  have hml := ho.ms.len
  have hm10 := ho.fewm
  obtain ⟨l, hll⟩ : ∃ l, hs.map absR = l := ⟨_, rfl⟩
  have HLL := Lib.hid hll
  obtain ⟨Q, hQ⟩ : ∃ Q, Deed ((hs.map absR, f), (0, 0, ((hs.map absR).filter (askB (absO o))).map (askS (absO o))), []) w d gen o = Q := ⟨_, rfl⟩
  rw [hQ]
  have HFIN := Lib.hid (fun (W1 : World) (AS : Option Addr) (ns cs : Nat) (SS : List SerH) (hb : Below w.heap.size w W1) (hS : Sers (W1.setRow w.heap.size #[.int .i64 0, .int .i64 0, .slice AS ns cs]) AS ns cs SS) (hSS : SS.map absR = ((l.take l.length).filter (askB (absO o))).map (askS (absO o))) =>
      (by rw [← hQ, hll, ← show SS.map absR = (l.filter (askB (absO o))).map (askS (absO o)) by rw [hSS, List.take_length], ← hll]; exact Deed.still HH.out.1 HH.out.2.1 (below_setRow hb (Nat.le_refl _) _) AS ns cs SS hS : Q (.returned (.agg #[.int .i64 0, .int .i64 0, .slice AS ns cs])) (W1.setRow w.heap.size #[.int .i64 0, .int .i64 0, .slice AS ns cs])))
  clear hQ hll hst ho hti hti'
  go_enter Try.func24, Try.ntmps24
  go_wp2_with fail
  refine KS.out.mono ?_
  rintro e w1 ⟨rfl, hb1⟩
  have hr1 := (hb1.block _ (by omega)).trans hr0'
  have hbw1 := later HR.out.1 hb1
  obtain ⟨⟨x0, x1⟩, -⟩ := (HD.out _ hbw1).cells
  have H1 := Lib.hid (And.intro hbw1 hr1)
  clear hb1 hr0' hr1 hbw1 h0
  go_wp2_with fail
  clear x0 x1
  go_loopw [3, 17] (fun v3 v17 wr => ∃ (k : Nat) (F : List SerH), k ≤ n ∧ v17 = .int .i64 k ∧ F.length ≤ k ∧ F.map absR = ((l.take k).filter (askB (absO o))).map (askS (absO o)) ∧ wr.ownsRow (w.heap.size + 2) 48 3 v3 F.length (F.flatMap encR) ∧ (∀ x ∈ F, OwnQ w wr x) ∧ Below w.heap.size w wr ∧ wr.heap[w.heap.size]? = some (.cells #[.int .i64 0, .int .i64 0, .slice none 0 0] 31 (0, 0))) (fun _ v17 _ => n - (intOf v17).toNat)
  case atStart => exact ⟨0, [], Nat.zero_le _, rfl, Nat.le_refl _, rfl, World.ownsRow_nil _ _ _ _, (fun x hx => absurd hx List.not_mem_nil), H1.out.1, H1.out.2⟩
  case round =>
    obtain ⟨k, F, hk, rfl, hFk, hF, hown, hok, hbw, hans⟩ := hrel
    have hln := HL.out.row.len
    by_cases hlt : k < n
    · have hkl : k < hs.length := by omega
      obtain ⟨b, oo, rfl, -, hcs⟩ := HL.out.cells hkl
      obtain ⟨hc0, hc1, hc2⟩ := hcs _ hbw
      have hkl2 : k < l.length := by rw [← HLL.out, List.length_map]; exact hkl
      have hsn := snocFM (askB (absO o)) (askS (absO o)) l k hkl2
      have hlk : l[k] = absR hs[k] := by simp only [← HLL.out, List.getElem_map]
      rw [hlk, ← hF] at hsn
      have hx := HL.out.ok _ (List.getElem_mem hkl)
      have hsm := HSM.out _ (List.getElem_mem hkl)
      have hfw := HFW.out _ (List.getElem_mem hkl)
      clear hlk
      generalize hs[k] = x at *
      obtain ⟨⟨⟨A1, n1, c1⟩, L⟩, ⟨⟨A2, n2, c2⟩, S⟩, T⟩ := x
      unfold hdV at hc0 hc1
      simp only [] at hc0 hc1 hc2 hsm hfw
      have hxs := hx.sam
      have hxl := hx.lab
      have hxt := hx.last
      simp only [] at hxs hxl hxt
      have hsl := hxs.len
      have hL2 := hxl.len
      have hfl := ((fewB_iff L).1 hfw).1
      have hansz : w.heap.size < wr.heap.size := (Array.getElem?_eq_some_iff.1 hans).1
      obtain ⟨wA, hwA⟩ : ∃ wA, wr.alloc (.cells #[.slice A1 n1 c1, .slice A2 n2 c2, .int .i64 T] 48 (0, 0)) = wA := ⟨_, rfl⟩
      have hbA : Below wr.heap.size wr wA := by rw [← hwA]; exact (Below.refl _ _).alloc (Nat.le_refl _) _
      have hrA : wA.heap[wr.heap.size]? = some (.cells #[.slice A1 n1 c1, .slice A2 n2 c2, .int .i64 T] 48 (0, 0)) := by rw [← hwA]; exact heap_alloc_new wr _
      have hzA : wr.heap.size < wA.heap.size := (Array.getElem?_eq_some_iff.1 hrA).1
      obtain ⟨y0, y1⟩ : wA.cell? ⟨wr.heap.size, 0, none⟩ = some (.slice A1 n1 c1) ∧ wA.cell? ⟨wr.heap.size, 1, none⟩ = some (.slice A2 n2 c2) := by
        refine ⟨?_, ?_⟩ <;> (rw [cell_of_row _ _ _ _ _ _ hrA]; rfl)
      have hbwA := later hbw hbA
      obtain ⟨-, -, -, -, x5, x6, x7, -⟩ := (HD.out _ hbwA).cells
      have KB := Lib.hid (between_any A2 n2 c2 S o.t o.te wA.drew (hxs.later ⟨hbwA.os, hbwA.tape, hbwA.output, hbwA.size, hbwA.block⟩) (by omega))
      have KAA := Lib.hid (fun (W : World) (hW : Below w.heap.size w W) => LabW.all_any o.ms.1.1 o.ms.1.2.1 o.ms.1.2.2 o.ms.2 A1 n1 c1 L W (HH.out.2.2.later hW).ms (hxl.later hW) (by omega) (by omega))
      have HOK := Lib.hid hxs.ok
      have HX := Lib.hid (And.intro hxl (And.intro hxt (And.intro hsn (And.intro hok (And.intro hbw (And.intro hbA (And.intro hrA (And.intro hown (And.intro hans hbwA)))))))))
      have i0 : (0 : Int) ≤ (k : Int) := by omega
      have i1 : (k : Int) < (n : Int) := by omega
      unfold hdV at x5
      clear hcs hx hxl hxt hxs hok hsn hF hown hbA hrA hbw hln hans hbwA hfw
      go_wp2_with fail
      go_still_tail 12, (by kernel_rfl)
      go_wp2_with fail
      refine KB.out.mono ?_
      rintro e w1 ⟨v, rfl, hown1, hb1'⟩
      have hb1 : Below wA.heap.size wA w1 := ⟨hb1'.os, hb1'.tape, hb1'.output, hb1'.size, hb1'.block⟩
      replace hown1 : w1.ownsRow wA.heap.size 51 2 v (S.filter (insideB o.t o.te)).length ((S.filter (insideB o.t o.te)).flatMap encS) := hown1
      obtain ⟨A3, c3, rfl, hm3, hc3⟩ := Comes.of_own hown1 (fun _ => rfl) (by decide) (fun y hy => HOK.out y (List.mem_filter.1 hy).1)
      have hml2 : (S.filter (insideB o.t o.te)).length ≤ 1000 := Nat.le_trans (List.length_filter_le ..) hsm
      obtain ⟨hxl, hxt, hsn, hok, hbw, hbA, hrA, hown, hans, hbwA⟩ := HX.out
      have hr1 := (hb1.block _ hzA).trans hrA
      obtain ⟨m, hm⟩ : ∃ m, (S.filter (insideB o.t o.te)).length = m := ⟨_, rfl⟩
      rw [hm] at hml2 hc3 hm3 hown1
      rw [hm]
      have hz1 := hb1.size
      have hbr1 : Below wr.heap.size wr w1 := later hbA hb1
      have hbw1 : Below w.heap.size w w1 := later hbw hbr1
      have hnew : OwnQ w w1 (((A1, n1, c1), L), ((A3, m, c3), S.filter (insideB o.t o.te)), 0) := ⟨hxl, hown1.mono (by omega), fun y hy => HOK.out y (List.mem_filter.1 hy).1, ⟨show (-9223372036854775808 : Int) ≤ 0 by decide, show (0 : Int) ≤ 9223372036854775807 by decide⟩⟩
      have hHIT : askB (absO o) (absR ((((A1, n1, c1), L), ((A2, n2, c2), S), T) : SerH)) = (allB o.ms.2 L && decide (0 < m)) := by
        show (allB o.ms.2 L && !(S.filter (insideB o.t o.te)).isEmpty) = _
        rw [← hm]
        cases S.filter (insideB o.t o.te) <;> simp
      have habs : absR ((((A1, n1, c1), L), ((A3, m, c3), S.filter (insideB o.t o.te)), (0 : Int)) : SerH) = askS (absO o) (absR ((((A1, n1, c1), L), ((A2, n2, c2), S), T) : SerH)) := rfl
      rw [hHIT, ← habs] at hsn
      obtain ⟨X, hX⟩ : ∃ X : SerH, (((A1, n1, c1), L), ((A3, m, c3), S.filter (insideB o.t o.te)), (0 : Int)) = X := ⟨_, rfl⟩
      rw [hX] at hnew hsn
      have hXe : encR X = [.slice A1 n1 c1, .slice A3 m c3, .int .i64 0] := by rw [← hX]; rfl
      have hownB := own_later hown hbr1
      have hokB : ∀ x ∈ F, OwnQ w w1 x := fun x hx => (hok x hx).later (fun j hj => hbr1.block j (own_lt' (hok x hx).own j hj).2)
      have hansB := (hbr1.block _ hansz).trans hans
      have KA := Lib.hid (KAA.out w1.drew ⟨hbw1.os, hbw1.tape, hbw1.output, hbw1.size, hbw1.block⟩)
      have HY := Lib.hid (And.intro hnew (And.intro hsn (And.intro hokB (And.intro hbw1 (And.intro hownB (And.intro hansB (And.intro hr1 hXe)))))))
      clear y0 y1 x5 x6 x7
      obtain ⟨-, -, -, -, x5, -⟩ := (HD.out _ hbw1).cells
      unfold hdV at x5
      have y0 : w1.cell? ⟨wr.heap.size, 0, none⟩ = some (.slice A1 n1 c1) := by rw [cell_of_row _ _ _ _ _ _ hr1]; rfl
      have hz1w : wr.heap.size < w1.heap.size := by omega
      have K2 := Lib.hid (fun (W : World) (hb : Below w1.drew.heap.size w1.drew W) =>
        have hb' : Below w1.heap.size w1 W := ⟨hb.os, hb.tape, hb.output, hb.size, hb.block⟩
        have h5 := (HD.out W (later HY.out.2.2.2.1 hb')).cells
        (⟨h5.2.2.2.2.1, by rw [cell_of_row _ _ _ _ _ _ ((hb'.block _ hz1w).trans HY.out.2.2.2.2.2.2.1)]; rfl⟩ : W.cell? ⟨d, 5, none⟩ = some (.slice o.ms.1.1 o.ms.1.2.1 o.ms.1.2.2) ∧ W.cell? ⟨wr.heap.size, 0, none⟩ = some (.slice A1 n1 c1)))
      have KF := Lib.hid (fun (W : World) (hb : Below w1.drew.heap.size w1.drew W) =>
        have hb' : Below w1.heap.size w1 W := ⟨hb.os, hb.tape, hb.output, hb.size, hb.block⟩
        (⟨HY.out.1.later (fun j hj => hb'.block j (own_lt' HY.out.1.own j hj).2), fun x hx => (HY.out.2.2.1 x hx).later (fun j hj => hb'.block j (own_lt' (HY.out.2.2.1 x hx).own j hj).2), later HY.out.2.2.2.1 hb', own_later HY.out.2.2.2.2.1 hb', (hb'.block _ (by omega)).trans HY.out.2.2.2.2.2.1, hb'.size⟩ :
          OwnQ w W X ∧ (∀ x ∈ F, OwnQ w W x) ∧ Below w.heap.size w W ∧ W.ownsRow (w.heap.size + 2) 48 3 _ F.length (F.flatMap encR) ∧ W.heap[w.heap.size]? = some (.cells #[.int .i64 0, .int .i64 0, .slice none 0 0] 31 (0, 0)) ∧ w1.heap.size ≤ W.heap.size))
      clear hown1 hc3 hm3 hb1 hb1' hr1 hxl hxt hsn hok hbw hbA hrA hown hans hbwA hbr1 hbw1 hokB hownB hansB hnew hHIT habs hm HX HOK KB KAA hXe hX
      cases hal : allB o.ms.2 L
      · rw [hal] at KA
        have HAL := Lib.hid hal
        · go_wp2_with fail
          refine wp_region_held_drew (S := (fun W : World => W.cell? ⟨d, 5, none⟩ = some (.slice o.ms.1.1 o.ms.1.2.1 o.ms.1.2.2) ∧ W.cell? ⟨wr.heap.size, 0, none⟩ = some (.slice A1 n1 c1))) (by kernel_rfl) ⟨x5, y0⟩ (fun hHeld => ?_)
          refine wpAnyH_take (i := 0) (v := ?_) rfl (by kernel_rfl) (by kernel_rfl) (by kernel_rfl) (fun _ _ _ h => h) (Or.inl ⟨by rfl, ?_⟩) (by assumption) ?_
          rotate_left
          · intro w hSw
            (try dsimp only at hSw)
            go_simp
            (try with_reducible rfl)
          (try simp only [Act.put, List.getElem_toArray, List.getElem_cons_succ, List.getElem_cons_zero, List.setIfInBounds_toArray, List.set_cons_zero, List.set_cons_succ])
          refine wpAnyH_take (i := 1) (v := ?_) rfl (by kernel_rfl) (by kernel_rfl) (by kernel_rfl) (fun _ _ _ h => h) (Or.inl ⟨by rfl, ?_⟩) (by assumption) ?_
          rotate_left
          · intro w hSw
            (try dsimp only at hSw)
            go_simp
            (try with_reducible rfl)
          (try simp only [Act.put, List.getElem_toArray, List.getElem_cons_succ, List.getElem_cons_zero, List.setIfInBounds_toArray, List.set_cons_zero, List.set_cons_succ])
          refine wpAnyH_take (i := 2) (v := ?_) rfl (by kernel_rfl) (by kernel_rfl) (by kernel_rfl) (fun _ _ _ h => h) (Or.inl ⟨by rfl, ?_⟩) (by assumption) ?_
          rotate_left
          · intro w hSw
            (try dsimp only at hSw)
            go_simp
            (try with_reducible rfl)
          (try simp only [Act.put, List.getElem_toArray, List.getElem_cons_succ, List.getElem_cons_zero, List.setIfInBounds_toArray, List.set_cons_zero, List.set_cons_succ])
          refine wpAnyH_take (i := 3) (v := ?_) rfl (by kernel_rfl) (by kernel_rfl) (by kernel_rfl) (fun _ _ _ h => h) (Or.inl ⟨by rfl, ?_⟩) (by assumption) ?_
          rotate_left
          · intro w hSw
            (try dsimp only at hSw)
            go_simp
            (try with_reducible rfl)
          (try simp only [Act.put, List.getElem_toArray, List.getElem_cons_succ, List.getElem_cons_zero, List.setIfInBounds_toArray, List.set_cons_zero, List.set_cons_succ])
          refine wpAnyH_take (i := 4) (v := ?_) rfl (by kernel_rfl) (by kernel_rfl) (by kernel_rfl) (fun _ _ _ h => h) (Or.inl ⟨by rfl, ?_⟩) (by assumption) ?_
          rotate_left
          · intro w hSw
            (try dsimp only at hSw)
            go_simp
            (try with_reducible rfl)
          (try simp only [Act.put, List.getElem_toArray, List.getElem_cons_succ, List.getElem_cons_zero, List.setIfInBounds_toArray, List.set_cons_zero, List.set_cons_succ])
          refine wpAnyH_take (i := 5) (v := ?_) rfl (by kernel_rfl) (by kernel_rfl) (by kernel_rfl) (fun _ _ _ h => h) (Or.inl ⟨by rfl, ?_⟩) (by assumption) ?_
          rotate_left
          · intro w hSw
            (try dsimp only at hSw)
            go_simp
            (try with_reducible rfl)
          (try simp only [Act.put, List.getElem_toArray, List.getElem_cons_succ, List.getElem_cons_zero, List.setIfInBounds_toArray, List.set_cons_zero, List.set_cons_succ])
          refine wpAnyH_take (i := 6) (v := ?_) rfl (by kernel_rfl) (by kernel_rfl) (by kernel_rfl) (fun _ _ _ h => h) (Or.inl ⟨by rfl, ?_⟩) (by assumption) ?_
          rotate_left
          · intro w hSw
            (try dsimp only at hSw)
            go_simp
            (try with_reducible rfl)
          (try simp only [Act.put, List.getElem_toArray, List.getElem_cons_succ, List.getElem_cons_zero, List.setIfInBounds_toArray, List.set_cons_zero, List.set_cons_succ])
          refine wpAnyH_ready (rs := [7]) (by kernel_rfl) (by simp) ?_
          refine AllReadyH.cons rfl (fun K hK => ?_) AllReadyH.nil
          go_simp
          go_at_call 46
          refine KA.out.mono ?_
          rintro e w2 ⟨rfl, hb2⟩
          (try go_wp2_with fail)
          refine hK.out _ _ (K2.out _ hb2) (fun hHeld2 => ?_)
          clear hK K hHeld
          (try simp only [Act.put, List.setIfInBounds_toArray, List.set_cons_zero, List.set_cons_succ])
          refine wpAnyH_take (i := 8) (v := ?_) rfl (by kernel_rfl) (by kernel_rfl) (by kernel_rfl) (fun _ _ _ h => h) (Or.inl ⟨by rfl, ?_⟩) (by assumption) ?_
          rotate_left
          · intro w hSw
            (try dsimp only at hSw)
            go_simp
            (try with_reducible rfl)
          (try simp only [Act.put, List.getElem_toArray, List.getElem_cons_succ, List.getElem_cons_zero, List.setIfInBounds_toArray, List.set_cons_zero, List.set_cons_succ])
          refine wpAnyH_take (i := 9) (v := undef) rfl (by kernel_rfl) (by kernel_rfl) (by kernel_rfl) (fun _ _ _ h => h) (Or.inr ⟨by simp [Region.wanted, yielded], rfl⟩) (by assumption) ?_
          (try simp only [Act.put, List.getElem_toArray, List.getElem_cons_succ, List.getElem_cons_zero, List.setIfInBounds_toArray, List.set_cons_zero, List.set_cons_succ])
          refine wpAnyH_take (i := 10) (v := undef) rfl (by kernel_rfl) (by kernel_rfl) (by kernel_rfl) (fun _ _ _ h => h) (Or.inr ⟨by simp [Region.wanted, yielded], rfl⟩) (by assumption) ?_
          (try simp only [Act.put, List.getElem_toArray, List.getElem_cons_succ, List.getElem_cons_zero, List.setIfInBounds_toArray, List.set_cons_zero, List.set_cons_succ])
          refine wpAnyH_take (i := 11) (v := undef) rfl (by kernel_rfl) (by kernel_rfl) (by kernel_rfl) (fun _ _ _ h => h) (Or.inr ⟨by simp [Region.wanted, yielded], rfl⟩) (by assumption) ?_
          (try simp only [Act.put, List.getElem_toArray, List.getElem_cons_succ, List.getElem_cons_zero, List.setIfInBounds_toArray, List.set_cons_zero, List.set_cons_succ])
          refine wpAnyH_take (i := 12) (v := ?_) rfl (by kernel_rfl) (by kernel_rfl) (by kernel_rfl) (fun _ _ _ h => h) (Or.inl ⟨by rfl, ?_⟩) (by assumption) ?_
          rotate_left
          · intro w hSw
            (try dsimp only at hSw)
            go_simp
            (try with_reducible rfl)
          (try simp only [Act.put, List.getElem_toArray, List.getElem_cons_succ, List.getElem_cons_zero, List.setIfInBounds_toArray, List.set_cons_zero, List.set_cons_succ])
          refine wpAnyH_done (by kernel_rfl) ?_ _
          have HKF := Lib.hid (KF.out w2 hb2)
          clear hb2 hHeld2 KF K2 KA x5 y0
          go_wp2_with fail
          go_roundw
          case rel =>
            obtain ⟨q1, q2, q3, q4, q5, q6⟩ := HKF.out
            refine ⟨k + 1, F, by omega, by go_num, by omega, ?_, q4, q2, q3, q5⟩
            rw [HY.out.2.1, HAL.out, Bool.false_and, if_neg (by decide), List.append_nil]
          case measure => simp [intOf]; omega
      · rw [hal] at KA
        have HAL := Lib.hid hal
        rcases Nat.eq_zero_or_pos m with rfl | hpos
        · go_wp2_with fail
          go_region_held3 (fun W : World => W.cell? ⟨d, 5, none⟩ = some (.slice o.ms.1.1 o.ms.1.2.1 o.ms.1.2.2) ∧ W.cell? ⟨wr.heap.size, 0, none⟩ = some (.slice A1 n1 c1))
            (first | exact ⟨x5, y0⟩ | exact K2.out _ (by assumption))
            (first
            | (go_at_call 46; refine KA.out.mono ?_; rintro e w2 ⟨rfl, hb2⟩; have HB2 := Lib.hid hb2))
          rename_i hh
          clear hh
          have HKF := Lib.hid (KF.out w2 HB2.out)
          clear hb2 KF K2 KA x5 y0
          go_wp2_with fail
          go_roundw
          case rel =>
            obtain ⟨q1, q2, q3, q4, q5, q6⟩ := HKF.out
            refine ⟨k + 1, F, by omega, by go_num, by omega, ?_, q4, q2, q3, q5⟩
            rw [HY.out.2.1, HAL.out, if_neg (by decide), List.append_nil]
          case measure => simp [intOf]; omega
        · have hgt : (m : Int) > 0 := by omega
          have HPOS := Lib.hid hpos
          go_wp2_with fail
          go_region_held3 (fun W : World => W.cell? ⟨d, 5, none⟩ = some (.slice o.ms.1.1 o.ms.1.2.1 o.ms.1.2.2) ∧ W.cell? ⟨wr.heap.size, 0, none⟩ = some (.slice A1 n1 c1))
            (first | exact ⟨x5, y0⟩ | exact K2.out _ (by assumption))
            (first
            | (go_at_call 46; refine KA.out.mono ?_; rintro e w2 ⟨rfl, hb2⟩; have HB2 := Lib.hid hb2))
          rename_i hh
          clear hh
          have HKF := Lib.hid (KF.out w2 HB2.out)
          have y9 : w2.cell? ⟨wr.heap.size, 0, none⟩ = some (.slice A1 n1 c1) := (K2.out _ HB2.out).2
          have hzw2 : w.heap.size + 2 ≤ w2.heap.size := by have := HKF.out.2.2.2.2.2; omega
          clear hb2 KF K2 KA x5 y0 hpos hgt
          go_wp2_with (at_builtin; go_must (refine wpList_append_keepC rfl _ _ 26 rfl (w.heap.size + 2) 48 (.agg #[.slice none 0 0, .slice none 0 0, .int .i64 0]) 3 56 Try.underlying26 elemR rfl (by decide) w2 HKF.out.2.2.2.1 rfl _ rfl rfl rfl (one3 rfl rfl rfl) (by omega) (by omega) hzw2 ?_); intro v' w' hown' hb' hz' hkp)
          have HZ := Lib.hid (And.intro hown' (And.intro hb' hkp))
          clear hown' hb' hz' hkp
          go_roundw
          case rel =>
            obtain ⟨q1, q2, q3, q4, q5, q6⟩ := HKF.out
            have hkq : ∀ x, OwnQ w w2 x → OwnQ w w' x := fun x hx => hx.later (fun j hj => HZ.out.2.2 j (own_lt' hx.own j hj).2 (fun e => own_type q4 hx.own (by decide) j e hj))
            refine ⟨k + 1, F ++ [X], by omega, by go_num, by rw [List.length_append]; simp; omega, ?_, ?_, ?_, q3.trans (HZ.out.2.1.mono (by omega)), (HZ.out.2.1.block _ (by omega)).trans q5⟩
            · rw [HY.out.2.1, HAL.out, decide_eq_true HPOS.out, if_pos (show (true && true) = true from rfl), List.map_append]; rfl
            · rw [List.length_append, List.flatMap_append, List.flatMap_singleton, HY.out.2.2.2.2.2.2.2]; exact HZ.out.1
            · intro x hx
              rcases List.mem_append.1 hx with hx | hx
              · exact hkq x (q2 x hx)
              · rw [List.mem_singleton.1 hx]; exact hkq _ q1
          case measure => simp [intOf]; omega
    · obtain rfl : k = n := by omega
      have hll : l.length = k := by rw [← HLL.out, List.length_map]; exact hln
      obtain ⟨A', c', rfl, hS'⟩ := Sers.of_own hown rfl (fun x hx => (hok x hx).okR hbw)
      have hF' : F.map absR = ((l.take l.length).filter (askB (absO o))).map (askS (absO o)) := by rw [hll]; exact hF
      have hSS := hS'.off hans (alien_answer _ _ _ _ _) (W' := wr.setRow w.heap.size #[.int .i64 0, .int .i64 0, .slice A' F.length c']) (fun j hj => setRow_other _ _ _ _ hj) (by simp)
      have HF2 := Lib.hid (HFIN.out wr A' F.length c' F hbw hSS hF')
      obtain ⟨q, hq⟩ : ∃ q, F.length = q := ⟨_, rfl⟩
      rw [hq] at HF2 ⊢
      clear hown hok hF hS' hSS hF' hbw hll hln HFIN
      go_wp2_with (refine wpList_store_row rfl 31 _ _ rfl w.heap.size #[.int .i64 0, .int .i64 0, .slice A' q c'] rfl rfl 31 _ hans info_A rfl (by simp [Value.oneCell']) ?_)
      have hr3 := setRow_heap wr w.heap.size _ #[.int .i64 0, .int .i64 0, .slice A' q c'] 31 (0, 0) hans
      exact bodyPost_ret (v := .agg #[.int .i64 0, .int .i64 0, .slice A' q c']) (results_cell_row (Try.results24) _ _ w.heap.size 31 _ (0, 0) _ rfl hr3 Try.underlying31 rfl info_A) rfl HF2.out
end Go.Proofs.Ytdjgndnllaingaa.TrW
