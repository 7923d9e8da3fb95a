/-
  truth.keep: THE WALK.
  truth.asked: THE WALK.
-/
import Derived.Test.YtdjgndnllaingaaJ31
/-
  truth.keep: THE WALK.
-/
namespace Go.Proofs.Ytdjgndnllaingaa.TrW
set_option linter.unusedVariables false
open Go.RowKit Go.Shelf LabM LbM LabW FrW TrM
theorem apply_keep {s : St} {t : Int} (ha : timely t = true) (hb : ¬ t ≤ s.2) : applyM s (2, [], t, 0, 0) = (fromM s t, 0) := by
  unfold applyM
  simp only []
  rw [if_neg (by decide), if_neg (by decide), if_pos trivial, if_neg (fun h => h.elim (by rw [ha]; simp) hb)]
theorem ToldW.later {w w2 w3 : World} {d : Nat} {gen : Int} {o : OpH} {r : RecH} {sm : List Ser} {fm : Int} (h : ToldW w w2 d gen o r sm fm) (hb : Below w2.heap.size w2 w3) : ToldW w w3 d gen o r sm fm := by
  obtain ⟨A9, n9, c9, F9, a1, a3, h1, h2, h3, h4, h5⟩ := h
  refine ⟨A9, n9, c9, F9, a1, a3, h1, h2.later hb, h3.later hb, h4.later hb, hb.os.trans h5.os, hb.tape.trans h5.tape, hb.output.trans h5.output, Nat.le_trans h5.size hb.size, fun k hk hne => ?_⟩
  exact (hb.block k (Nat.lt_of_lt_of_le hk h5.size)).trans (h5.block k hk hne)
theorem StV.count {w : World} {A : Option Addr} {n c : Nat} {hs : List SerH} {f : Int} (h : StV w A n c hs f) : count (hs.map absR) ≤ 20000 := by
  have h1 := count_le (hs.map absR) (small_abs h.small)
  have h2 := h.n20
  have h3 := h.sers.row.len
  rw [List.length_map] at h1
  omega
set_option maxRecDepth 20000 in
set_option maxHeartbeats 8000000 in
theorem keep_do (d : Nat) (A : Option Addr) (n c : Nat) (hs : List SerH) (f gen : Int) (o : OpH) (w : World) (hd : DAt w d A n c f gen o (.slice none 0 0)) (hst : StV w A n c hs f) (ho : OkO w o) (hk : o.kd = 2) :
    Calls Try.prog 23 #[.pointer (some ⟨d, 0, none⟩)] w (Deed (doM (hs.map absR, f) (absO o) gen) w d gen o) := by
  have hdlt := hd.lt
  obtain ⟨w0, h0⟩ : ∃ w0, w.alloc (.cells (ansRow 0 0 none 0 0) 31 (0, 0)) = w0 := ⟨_, rfl⟩
  have hb0 : Below w.heap.size w w0 := by rw [← h0]; exact (Below.refl _ _).alloc (Nat.le_refl _) _
  have hz0 : w0.heap.size = w.heap.size + 1 := by rw [← h0]; simp
  have hr0 : w0.heap[w.heap.size]? = some (.cells (ansRow 0 0 none 0 0) 31 (0, 0)) := by rw [← h0]; exact heap_alloc_new w _
  have HD := Lib.hid (fun (W : World) (hW : Below w.heap.size w W) => hd.later hW)
  obtain ⟨⟨x0, x1⟩, x2, x3, x4, x5, x6, x7, x8, x9⟩ := (hd.later hb0).cells
  have HR := Lib.hid (And.intro hb0 hr0)
  have HH := Lib.hid (And.intro hd (And.intro hst ho))
  unfold hdV at x4 x5
  have KY := Lib.hid (timely_any o.t)
  have hr0' := hr0
  unfold ansRow at h0 hr0'
  clear hb0 hr0 hd hst ho
  by_cases hti : timely o.t = false
  · rw [show doM (hs.map absR, f) (absO o) gen = ((hs.map absR, f), (1, 0, []), []) from (do_keep (o := absO o) hk).trans (if_pos hti)]
    obtain ⟨Q, hQ⟩ : ∃ Q, Deed ((hs.map absR, f), (1, 0, []), []) w d gen o = Q := ⟨_, rfl⟩
    rw [hQ]
    have HFIN : Hid (Q (.returned (.agg #[.int .i64 1, .int .i64 0, .slice none 0 0])) (w0.setRow w.heap.size #[.int .i64 1, .int .i64 0, .slice none 0 0])) := Lib.hid (by
      rw [← hQ]; exact Deed.still HH.out.1 HH.out.2.1 (below_setRow HR.out.1 (Nat.le_refl _) (ansRow 1 0 none 0 0)) none 0 0 [] (Sers.nil _))
    rw [hti] at KY
    clear hQ
    go_enter Try.func23, Try.ntmps23
    go_wp2_with fail
    refine (KY.out _).mono ?_
    rintro e w' ⟨rfl, rfl⟩
    go_wp2_with (refine wpList_store_row rfl 31 _ _ rfl w.heap.size #[.int .i64 1, .int .i64 0, .slice none 0 0] rfl rfl 31 _ hr0' info_A rfl (by simp [Value.oneCell']) ?_)
    have hr3 := setRow_heap w0 w.heap.size _ #[.int .i64 1, .int .i64 0, .slice none 0 0] 31 (0, 0) hr0'
    exact bodyPost_ret (v := .agg #[.int .i64 1, .int .i64 0, .slice none 0 0]) (results_cell_row (Try.results23) _ _ w.heap.size 31 _ (0, 0) _ rfl hr3 Try.underlying31 rfl info_A) rfl HFIN.out
  have hti' : timely o.t = true := by simpa using hti
  rw [hti'] at KY
  by_cases hle : o.t ≤ f
  · rw [show doM (hs.map absR, f) (absO o) gen = ((hs.map absR, f), (0, 0, []), []) from ((do_keep (o := absO o) hk).trans (if_neg hti)).trans (if_pos hle)]
    obtain ⟨Q, hQ⟩ : ∃ Q, Deed ((hs.map absR, f), (0, 0, []), []) w d gen o = Q := ⟨_, rfl⟩
    rw [hQ]
    have HFIN : Hid (∀ nq, Q (.returned (.agg #[.int .i64 0, .int .i64 0, .slice none 0 0])) ((w0.drewN nq).setRow w.heap.size #[.int .i64 0, .int .i64 0, .slice none 0 0])) := Lib.hid (fun nq => by
      rw [← hQ]; exact Deed.still HH.out.1 HH.out.2.1 (below_setRow (show Below w.heap.size w (w0.drewN nq) from ⟨HR.out.1.os, HR.out.1.tape, HR.out.1.output, HR.out.1.size, HR.out.1.block⟩) (Nat.le_refl _) (ansRow 0 0 none 0 0)) none 0 0 [] (Sers.nil _))
    clear hQ hti hti'
    go_enter Try.func23, Try.ntmps23
    go_wp2_with fail
    refine (KY.out _).mono ?_
    rintro e w' ⟨rfl, rfl⟩
    go_wp2_with fail
    go_quiet (fail)
    go_wp2_with (refine wpList_store_row rfl 31 _ _ rfl w.heap.size #[.int .i64 0, .int .i64 0, .slice none 0 0] rfl rfl 31 _ hr0' info_A rfl (by simp [Value.oneCell']) ?_)
    have hr3 := setRow_heap (w0.drewN nq) w.heap.size _ #[.int .i64 0, .int .i64 0, .slice none 0 0] 31 (0, 0) hr0'
    exact bodyPost_ret (v := .agg #[.int .i64 0, .int .i64 0, .slice none 0 0]) (results_cell_row (Try.results23) _ _ w.heap.size 31 _ (0, 0) _ rfl hr3 Try.underlying31 rfl info_A) rfl (HFIN.out nq)
  · rw [show doM (hs.map absR, f) (absO o) gen = (fromM (hs.map absR, f) o.t, (0, (count (hs.map absR) : Int) - (count (fromM (hs.map absR, f) o.t).1 : Int), []), [(2, [], o.t, 0, 0)]) from ((do_keep (o := absO o) hk).trans (if_neg hti)).trans (if_neg hle)]
    have hap := apply_keep (s := (hs.map absR, f)) hti' hle
    have KT := Lib.hid (fun (W : World) (hW : Below w.heap.size w W) => tell_ok d A n c hs f gen o 2 none 0 0 [] o.t 0 0 W (HH.out.1.later hW) (HH.out.2.1.later hW) ⟨Comes.nil _ _ _ _, rfl, HH.out.2.2.t, ⟨Int.le_refl _, show (0 : Int) < 18446744073709551616 by decide⟩⟩ (by rw [hap]))
    rw [hap] at KT
    have KC := Lib.hid (fun (W : World) (hW : Below w.heap.size w W) => count_any A n c hs f W (HH.out.2.1.later hW).sers (by have := HH.out.2.1.n20; omega) HH.out.2.1.small)
    have hcn := HH.out.2.1.count
    generalize hpm : fromM (hs.map absR, f) o.t = pm at *
    obtain ⟨sm, fm⟩ := pm
    obtain ⟨p, hp⟩ : ∃ p, count (hs.map absR) = p := ⟨_, rfl⟩
    obtain ⟨q, hq⟩ : ∃ q, count sm = q := ⟨_, rfl⟩
    simp only [] at KT ⊢
    rw [hp] at hcn KC ⊢
    rw [hq]
    obtain ⟨Q, hQ⟩ : ∃ Q, Deed ((sm, fm), (0, (p : Int) - (q : Int), []), [(2, [], o.t, 0, 0)]) w d gen o = Q := ⟨_, rfl⟩
    rw [hQ]
    have HFIN := Lib.hid (fun (W1 w2 : World) (hb : Below w.heap.size w W1) (hr : W1.heap[w.heap.size]? = some (.cells (ansRow 0 0 none 0 0) 31 (0, 0))) (h : ToldW W1 w2 d gen o (2, ((none, 0, 0), []), o.t, 0, 0) sm fm) =>
      (⟨(told_end hb hr h hdlt).1, by rw [← hQ]; exact Deed.told ((told_end hb hr h hdlt).2 (ansRow 0 ((p : Int) - (q : Int)) none 0 0))⟩ : w2.heap[w.heap.size]? = some (.cells (ansRow 0 0 none 0 0) 31 (0, 0)) ∧ Q (.returned (.agg #[.int .i64 0, .int .i64 ((p : Int) - (q : Int)), .slice none 0 0])) (w2.setRow w.heap.size (ansRow 0 ((p : Int) - (q : Int)) none 0 0))))
    clear hQ hti hti' hap
    have hgt : ¬ o.t ≤ f := hle
    go_enter Try.func23, Try.ntmps23
    go_wp2_with fail
    refine (KY.out _).mono ?_
    rintro e w' ⟨rfl, rfl⟩
    go_wp2_with fail
    go_quiet (fail)
    go_wp2_with fail
    refine (KC.out _ (show Below w.heap.size w (w0.drewN nq) from ⟨HR.out.1.os, HR.out.1.tape, HR.out.1.output, HR.out.1.size, HR.out.1.block⟩)).mono ?_
    rintro e w1 ⟨rfl, hb1⟩
    have hb1' : Below w0.heap.size w0 w1 := below_draws hb1
    have hr1 := (hb1'.block _ (by omega)).trans HR.out.2
    have hbw1 := later HR.out.1 hb1'
    have H1 := Lib.hid (And.intro hbw1 hr1)
    have hd1 := HD.out _ hbw1
    clear hb1 hb1' hbw1 hr1 x0 x1 x2 x3 x4 x5 x6 x7 x8 x9 KY KC h0 hle hgt hr0'
    obtain ⟨⟨x0, x1⟩, x2, x3, x4, x5, x6, x7, x8, x9⟩ := hd1.cells
    unfold hdV at x4 x5
    clear hd1
    go_wp2_with fail
    refine (KT.out _ H1.out.1).mono ?_
    rintro e w2 ⟨rfl, hT⟩
    have HT := Lib.hid hT
    obtain ⟨A9, n9, c9, F9, a1, a3, h1, h2, h3, h4, h5⟩ := hT
    have hq9 : count (F9.map absR) = q := by rw [h1, hq]
    have hqn := h3.count
    have KC2 := count_any A9 n9 c9 F9 fm w2 h3.sers (by have := h3.n20; omega) h3.small
    rw [hq9] at KC2 hqn
    have KC2' := Lib.hid KC2
    clear x0 x1 x2 x3 x4 x5 x6 x7 x8 x9 KC2 h3 h4 h5 h1 hq9 KT
    obtain ⟨⟨x0, x1⟩, -⟩ := h2.cells
    clear h2
    go_wp2_with fail
    refine KC2'.out.mono ?_
    rintro e w3 ⟨rfl, hb3⟩
    have HF := HFIN.out w1 w3 H1.out.1 H1.out.2 (HT.out.later hb3)
    have hr2 := HF.1
    have HF2 := Lib.hid HF.2
    have hw9 : IntKind.i64.wrap ((p : Int) - (q : Int)) = (p : Int) - (q : Int) := IntWalk.i64_in _ (by omega)
    clear HF HFIN KC2' HT hb3 x0 x1
    unfold ansRow at hr2 HF2
    go_wp2_with (refine wpList_store_row rfl 31 _ _ rfl w.heap.size #[.int .i64 0, .int .i64 ((p : Int) - (q : Int)), .slice none 0 0] rfl rfl 31 _ hr2 info_A rfl (by simp [Value.oneCell']) ?_)
    have hr3 := setRow_heap w3 w.heap.size _ #[.int .i64 0, .int .i64 ((p : Int) - (q : Int)), .slice none 0 0] 31 (0, 0) hr2
    exact bodyPost_ret (v := .agg #[.int .i64 0, .int .i64 ((p : Int) - (q : Int)), .slice none 0 0]) (results_cell_row (Try.results23) _ _ w.heap.size 31 _ (0, 0) _ rfl hr3 Try.underlying31 rfl info_A) rfl HF2.out
end Go.Proofs.Ytdjgndnllaingaa.TrW
/-
  truth.asked: THE WALK.
-/
namespace Go.Proofs.Ytdjgndnllaingaa.TrW
set_option linter.unusedVariables false
set_option linter.unusedSimpArgs false
open Go.RowKit Go.Shelf LabM LbM LabW FrW TrM
set_option maxRecDepth 20000 in
set_option maxHeartbeats 8000000 in
theorem asked_any (d : Nat) (A : Option Addr) (n c : Nat) (f gen : Int) (o : OpH) (rv : Value) (w : World) (hd : DAt w d A n c f gen o rv) (ho : OkO w o) :
    Calls Try.prog 45 #[.pointer (some ⟨d, 0, none⟩)] w fun e w' => e = .returned (.bool (askedB (absO o))) ∧ Below w.heap.size w w' := by
  have hdlt := hd.lt
  have KM := Lib.hid (fun (W : World) (hW : Below w.heap.size w W) => mcheck_any o.ms.1.1 o.ms.1.2.1 o.ms.1.2.2 o.ms.2 W (ho.later hW).ms)
  have HD := Lib.hid (fun (W : World) (hW : Below w.heap.size w W) => hd.later hW)
  obtain ⟨⟨x0, x1⟩, x2, x3, x4, x5, x6, x7, x8, x9⟩ := hd.cells
  have HH := Lib.hid hd
  unfold hdV at x4 x5
  obtain ⟨t0, t1⟩ := ho.t
  obtain ⟨t2, t3⟩ := ho.te
  have K2 := Lib.hid (fun (W : World) (hb1 : Below w.drew.heap.size w.drew W) =>
      have h := HD.out W ⟨hb1.os, hb1.tape, hb1.output, hb1.size, hb1.block⟩
      (⟨h.cells.2.2.2.2.1, h.cells.2.2.2.2.2.1, h.cells.2.2.2.2.2.2.1⟩ : W.cell? ⟨d, 5, none⟩ = some (.slice o.ms.1.1 o.ms.1.2.1 o.ms.1.2.2) ∧ W.cell? ⟨d, 6, none⟩ = some (.int .i64 o.t) ∧ W.cell? ⟨d, 7, none⟩ = some (.int .i64 o.te)))
  have hA : askedB (absO o) = (checkMB o.ms.2 && decide (o.t ≤ o.te)) := rfl
  rw [hA]
  have hbd : Below w.heap.size w w.drew := ⟨rfl, rfl, rfl, Nat.le_refl _, fun _ _ => rfl⟩
  clear hd ho hA
  cases hc : checkMB o.ms.2
  · rw [hc] at KM
    go_enter Try.func45, Try.ntmps45
    go_wp2_with fail
    refine wp_region_held_drew (S := (fun W : World => W.cell? ⟨d, 5, none⟩ = some (.slice o.ms.1.1 o.ms.1.2.1 o.ms.1.2.2) ∧ W.cell? ⟨d, 6, none⟩ = some (.int .i64 o.t) ∧ W.cell? ⟨d, 7, none⟩ = some (.int .i64 o.te))) (by kernel_rfl) ⟨x5, x6, x7⟩ (fun hHeld => ?_)
    refine wpAnyH_take (i := 0) (v := ?_) rfl (by kernel_rfl) (by kernel_rfl) (by kernel_rfl) (fun _ _ _ h => h) (Or.inl ⟨by rfl, ?_⟩) (by assumption) ?_
    rotate_left
    · intro w hSw
      (try dsimp only at hSw)
      go_simp
      (try with_reducible rfl)
    (try simp only [Act.put, List.getElem_toArray, List.getElem_cons_succ, List.getElem_cons_zero, List.setIfInBounds_toArray, List.set_cons_zero, List.set_cons_succ])
    refine wpAnyH_take (i := 1) (v := ?_) rfl (by kernel_rfl) (by kernel_rfl) (by kernel_rfl) (fun _ _ _ h => h) (Or.inl ⟨by rfl, ?_⟩) (by assumption) ?_
    rotate_left
    · intro w hSw
      (try dsimp only at hSw)
      go_simp
      (try with_reducible rfl)
    (try simp only [Act.put, List.getElem_toArray, List.getElem_cons_succ, List.getElem_cons_zero, List.setIfInBounds_toArray, List.set_cons_zero, List.set_cons_succ])
    refine wpAnyH_take (i := 2) (v := ?_) rfl (by kernel_rfl) (by kernel_rfl) (by kernel_rfl) (fun _ _ _ h => h) (Or.inl ⟨by rfl, ?_⟩) (by assumption) ?_
    rotate_left
    · intro w hSw
      (try dsimp only at hSw)
      go_simp
      (try with_reducible rfl)
    (try simp only [Act.put, List.getElem_toArray, List.getElem_cons_succ, List.getElem_cons_zero, List.setIfInBounds_toArray, List.set_cons_zero, List.set_cons_succ])
    refine wpAnyH_take (i := 3) (v := ?_) rfl (by kernel_rfl) (by kernel_rfl) (by kernel_rfl) (fun _ _ _ h => h) (Or.inl ⟨by rfl, ?_⟩) (by assumption) ?_
    rotate_left
    · intro w hSw
      (try dsimp only at hSw)
      go_simp
      (try with_reducible rfl)
    (try simp only [Act.put, List.getElem_toArray, List.getElem_cons_succ, List.getElem_cons_zero, List.setIfInBounds_toArray, List.set_cons_zero, List.set_cons_succ])
    refine wpAnyH_take (i := 4) (v := ?_) rfl (by kernel_rfl) (by kernel_rfl) (by kernel_rfl) (fun _ _ _ h => h) (Or.inl ⟨by rfl, ?_⟩) (by assumption) ?_
    rotate_left
    · intro w hSw
      (try dsimp only at hSw)
      go_simp
      (try with_reducible rfl)
    (try simp only [Act.put, List.getElem_toArray, List.getElem_cons_succ, List.getElem_cons_zero, List.setIfInBounds_toArray, List.set_cons_zero, List.set_cons_succ])
    refine wpAnyH_ready (rs := [5]) (by kernel_rfl) (by simp) ?_
    refine AllReadyH.cons rfl (fun K hK => ?_) AllReadyH.nil
    go_simp
    go_at_call 60
    refine (KM.out _ hbd).mono ?_
    rintro e w1 ⟨rfl, hb1⟩
    rw [show errN false 1 = 1 from rfl]
    (try go_wp2_with fail)
    refine hK.out _ _ (K2.out _ hb1) (fun hHeld2 => ?_)
    clear hK K hHeld
    (try simp only [Act.put, List.getElem_toArray, List.getElem_cons_succ, List.getElem_cons_zero, List.setIfInBounds_toArray, List.set_cons_zero, List.set_cons_succ])
    refine wpAnyH_take (i := 6) (v := ?_) rfl (by kernel_rfl) (by kernel_rfl) (by kernel_rfl) (fun _ _ _ h => h) (Or.inl ⟨by rfl, ?_⟩) (by assumption) ?_
    rotate_left
    · intro w hSw
      (try dsimp only at hSw)
      go_simp
      (try with_reducible rfl)
    (try simp only [Act.put, List.getElem_toArray, List.getElem_cons_succ, List.getElem_cons_zero, List.setIfInBounds_toArray, List.set_cons_zero, List.set_cons_succ])
    refine wpAnyH_take (i := 7) (v := ?_) rfl (by kernel_rfl) (by kernel_rfl) (by kernel_rfl) (fun _ _ _ h => h) (Or.inl ⟨by rfl, ?_⟩) (by assumption) ?_
    rotate_left
    · intro w hSw
      (try dsimp only at hSw)
      go_simp
      (try with_reducible rfl)
    (try simp only [Act.put, List.getElem_toArray, List.getElem_cons_succ, List.getElem_cons_zero, List.setIfInBounds_toArray, List.set_cons_zero, List.set_cons_succ])
    refine wpAnyH_take (i := 8) (v := undef) rfl (by kernel_rfl) (by kernel_rfl) (by kernel_rfl) (fun _ _ _ h => h) (Or.inr ⟨by simp [Region.wanted, yielded], rfl⟩) (by assumption) ?_
    (try simp only [Act.put, List.getElem_toArray, List.getElem_cons_succ, List.getElem_cons_zero, List.setIfInBounds_toArray, List.set_cons_zero, List.set_cons_succ])
    refine wpAnyH_take (i := 9) (v := undef) rfl (by kernel_rfl) (by kernel_rfl) (by kernel_rfl) (fun _ _ _ h => h) (Or.inr ⟨by simp [Region.wanted, yielded], rfl⟩) (by assumption) ?_
    (try simp only [Act.put, List.getElem_toArray, List.getElem_cons_succ, List.getElem_cons_zero, List.setIfInBounds_toArray, List.set_cons_zero, List.set_cons_succ])
    refine wpAnyH_take (i := 10) (v := undef) rfl (by kernel_rfl) (by kernel_rfl) (by kernel_rfl) (fun _ _ _ h => h) (Or.inr ⟨by simp [Region.wanted, yielded], rfl⟩) (by assumption) ?_
    (try simp only [Act.put, List.getElem_toArray, List.getElem_cons_succ, List.getElem_cons_zero, List.setIfInBounds_toArray, List.set_cons_zero, List.set_cons_succ])
    refine wpAnyH_take (i := 11) (v := undef) rfl (by kernel_rfl) (by kernel_rfl) (by kernel_rfl) (fun _ _ _ h => h) (Or.inr ⟨by simp [Region.wanted, yielded], rfl⟩) (by assumption) ?_
    (try simp only [Act.put, List.getElem_toArray, List.getElem_cons_succ, List.getElem_cons_zero, List.setIfInBounds_toArray, List.set_cons_zero, List.set_cons_succ])
    refine wpAnyH_take (i := 12) (v := undef) rfl (by kernel_rfl) (by kernel_rfl) (by kernel_rfl) (fun _ _ _ h => h) (Or.inr ⟨by simp [Region.wanted, yielded], rfl⟩) (by assumption) ?_
    (try simp only [Act.put, List.getElem_toArray, List.getElem_cons_succ, List.getElem_cons_zero, List.setIfInBounds_toArray, List.set_cons_zero, List.set_cons_succ])
    refine wpAnyH_take (i := 13) (v := undef) rfl (by kernel_rfl) (by kernel_rfl) (by kernel_rfl) (fun _ _ _ h => h) (Or.inr ⟨by simp [Region.wanted, yielded], rfl⟩) (by assumption) ?_
    (try simp only [Act.put, List.getElem_toArray, List.getElem_cons_succ, List.getElem_cons_zero, List.setIfInBounds_toArray, List.set_cons_zero, List.set_cons_succ])
    refine wpAnyH_take (i := 14) (v := undef) rfl (by kernel_rfl) (by kernel_rfl) (by kernel_rfl) (fun _ _ _ h => h) (Or.inr ⟨by simp [Region.wanted, yielded], rfl⟩) (by assumption) ?_
    (try simp only [Act.put, List.getElem_toArray, List.getElem_cons_succ, List.getElem_cons_zero, List.setIfInBounds_toArray, List.set_cons_zero, List.set_cons_succ])
    refine wpAnyH_take (i := 15) (v := undef) rfl (by kernel_rfl) (by kernel_rfl) (by kernel_rfl) (fun _ _ _ h => h) (Or.inr ⟨by simp [Region.wanted, yielded], rfl⟩) (by assumption) ?_
    (try simp only [Act.put, List.getElem_toArray, List.getElem_cons_succ, List.getElem_cons_zero, List.setIfInBounds_toArray, List.set_cons_zero, List.set_cons_succ])
    refine wpAnyH_take (i := 16) (v := undef) rfl (by kernel_rfl) (by kernel_rfl) (by kernel_rfl) (fun _ _ _ h => h) (Or.inr ⟨by simp [Region.wanted, yielded], rfl⟩) (by assumption) ?_
    (try simp only [Act.put, List.getElem_toArray, List.getElem_cons_succ, List.getElem_cons_zero, List.setIfInBounds_toArray, List.set_cons_zero, List.set_cons_succ])
    refine wpAnyH_take (i := 17) (v := undef) rfl (by kernel_rfl) (by kernel_rfl) (by kernel_rfl) (fun _ _ _ h => h) (Or.inr ⟨by simp [Region.wanted, yielded], rfl⟩) (by assumption) ?_
    (try simp only [Act.put, List.getElem_toArray, List.getElem_cons_succ, List.getElem_cons_zero, List.setIfInBounds_toArray, List.set_cons_zero, List.set_cons_succ])
    refine wpAnyH_take (i := 18) (v := undef) rfl (by kernel_rfl) (by kernel_rfl) (by kernel_rfl) (fun _ _ _ h => h) (Or.inr ⟨by simp [Region.wanted, yielded], rfl⟩) (by assumption) ?_
    (try simp only [Act.put, List.getElem_toArray, List.getElem_cons_succ, List.getElem_cons_zero, List.setIfInBounds_toArray, List.set_cons_zero, List.set_cons_succ])
    refine wpAnyH_take (i := 19) (v := ?_) rfl (by kernel_rfl) (by kernel_rfl) (by kernel_rfl) (fun _ _ _ h => h) (Or.inl ⟨by rfl, ?_⟩) (by assumption) ?_
    rotate_left
    · intro w hSw
      (try dsimp only at hSw)
      go_simp
      (try with_reducible rfl)
    (try simp only [Act.put, List.getElem_toArray, List.getElem_cons_succ, List.getElem_cons_zero, List.setIfInBounds_toArray, List.set_cons_zero, List.set_cons_succ])
    refine wpAnyH_take (i := 20) (v := ?_) rfl (by kernel_rfl) (by kernel_rfl) (by kernel_rfl) (fun _ _ _ h => h) (Or.inl ⟨by rfl, ?_⟩) (by assumption) ?_
    rotate_left
    · intro w hSw
      (try dsimp only at hSw)
      go_simp
      (try with_reducible rfl)
    (try simp only [Act.put, List.getElem_toArray, List.getElem_cons_succ, List.getElem_cons_zero, List.setIfInBounds_toArray, List.set_cons_zero, List.set_cons_succ])
    refine wpAnyH_done (by kernel_rfl) ?_ _
    go_wp2_with fail
    go_ret
    exact ⟨rfl, hb1.os, hb1.tape, hb1.output, hb1.size, hb1.block⟩
  · rw [hc] at KM
    rw [Bool.true_and]
    go_enter Try.func45, Try.ntmps45
    go_wp2_with fail
    go_region_held3 (fun W : World => W.cell? ⟨d, 5, none⟩ = some (.slice o.ms.1.1 o.ms.1.2.1 o.ms.1.2.2) ∧ W.cell? ⟨d, 6, none⟩ = some (.int .i64 o.t) ∧ W.cell? ⟨d, 7, none⟩ = some (.int .i64 o.te))
      (first | exact ⟨x5, x6, x7⟩ | exact K2.out _ (by assumption))
      (first
      | (go_at_call 60; refine (KM.out _ hbd).mono ?_; rintro e w1 ⟨rfl, hb1⟩; rw [show errN true 1 = 0 from rfl]; have HB1 := Lib.hid hb1))
    go_wp2_with fail
    go_ret
    exact ⟨rfl, HB1.out.os, HB1.out.tape, HB1.out.output, HB1.out.size, HB1.out.block⟩
end Go.Proofs.Ytdjgndnllaingaa.TrW
