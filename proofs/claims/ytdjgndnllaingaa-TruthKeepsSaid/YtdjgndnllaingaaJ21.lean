/-
  truth.from: THE WALK.
-/
import Derived.Test.YtdjgndnllaingaaJ20
/-
  truth.from: THE WALK.
-/
namespace Go.Proofs.Ytdjgndnllaingaa.TrW
set_option linter.unusedVariables false
open Go.RowKit Go.Shelf LabM LbM LabW FrW TrM
theorem info_S : (Try.prog.info? 28).map (·.size) = some 2 := by kernel_rfl
theorem map_snocF {α : Type} (p : α → Bool) (q : α → α) (l : List α) (k : Nat) (h : k < l.length) : ((l.take (k + 1)).map q).filter p = ((l.take k).map q).filter p ++ if p (q l[k]) then [q l[k]] else [] := by
  rw [take_snocL l k h, List.map_append, List.filter_append]
  congr 1
  cases hp : p (q l[k]) <;> simp [hp]
/-- A row of series of the call's own is a slice of series. -/
theorem Sers.of_own {w : World} {base n : Nat} {v : Value} {F : List SerH} (h : w.ownsRow base 48 3 v n (F.flatMap encR)) (hn : n = F.length) (hok : ∀ x ∈ F, okR w x) : ∃ A c, v = .slice A n c ∧ Sers w A n c F := by
  obtain ⟨A, c, hv, -, hc⟩ := Comes.of_own (okA := fun _ => True) h encR_len (by decide) (fun _ _ => trivial)
  exact ⟨A, c, hv, hc, hok⟩
/-- A series whose samples lie in a row of the call's own. -/
structure OwnQ (w W : World) (x : SerH) : Prop where
  lab : Comes w 2 encL okL x.1.1.1 x.1.1.2.1 x.1.1.2.2 x.1.2
  own : W.ownsRow (w.heap.size + 2) 51 2 (hdV x.2.1.1) x.2.1.1.2.1 (x.2.1.2.flatMap encS)
  ok : ∀ y ∈ x.2.1.2, okS y
  last : -9223372036854775808 ≤ x.2.2 ∧ x.2.2 ≤ 9223372036854775807
theorem OwnQ.okR {w W : World} {x : SerH} (h : OwnQ w W x) (hb : Below w.heap.size w W) : okR W x := by
  obtain ⟨A, c, hv, hn, hc⟩ := Comes.of_own h.own (fun _ => rfl) (by decide) h.ok
  obtain ⟨⟨⟨A1, n1, c1⟩, L⟩, ⟨⟨A2, n2, c2⟩, S⟩, T⟩ := x
  injection hv with e1 e2 e3
  simp only [] at e1 e2 e3
  subst e1 e3
  exact ⟨h.lab.later hb, hc, h.last⟩
theorem OwnQ.later {w W W' : World} {x : SerH} (h : OwnQ w W x) (hk : ∀ k, (hdV x.2.1.1).ownBlock = some k → W'.heap[k]? = W.heap[k]?) : OwnQ w W' x := ⟨h.lab, own_same h.own hk, h.ok, h.last⟩
set_option maxRecDepth 20000 in
set_option maxHeartbeats 4000000 in
theorem from_any (A : Option Addr) (n c : Nat) (hs : List SerH) (f t : Int) (w : World) (hl : Sers w A n c hs) (hn : n ≤ 1000) (hS : SmallS hs) :
    Calls Try.prog 39 #[.agg #[.slice A n c, .int .i64 f], .int .i64 t] w fun e w' => ∃ A' n' c' F, e = .returned (.agg #[.slice A' n' c', .int .i64 t]) ∧ Sers w' A' n' c' F ∧ F.map absR = (fromM (hs.map absR, f) t).1 ∧ Below w.heap.size w w' := by
  have HL := Lib.hid hl
  have hcap : c ≤ 9223372036854775807 := hl.row.cap
  have hle := hl.row.le
  obtain ⟨l, hll⟩ : ∃ l, hs.map absR = l := ⟨_, rfl⟩
  have HLL := Lib.hid hll
  rw [hll]
  have HFM : Hid (∀ F : List SerH, F.map absR = ((l.take l.length).map (cutS t)).filter (staysB t) → F.map absR = (fromM (l, f) t).1) := Lib.hid (fun F h => by rw [h, List.take_length]; rfl)
  clear hl hll
  obtain ⟨W0, hW0⟩ : ∃ W0, w.alloc (.cells #[.slice A n c, .int .i64 f] 28 (0, 0)) = W0 := ⟨_, rfl⟩
  have hb0 : Below w.heap.size w W0 := by rw [← hW0]; exact (Below.refl _ _).alloc (Nat.le_refl _) _
  have hr0 : W0.heap[w.heap.size]? = some (.cells #[.slice A n c, .int .i64 f] 28 (0, 0)) := by rw [← hW0]; exact heap_alloc_new w _
  have hz0 : W0.heap.size = w.heap.size + 1 := by rw [← hW0]; simp
  obtain ⟨W1, hW1⟩ : ∃ W1, W0.alloc (.cells #[.slice none 0 0, .int .i64 0] 28 (0, 0)) = W1 := ⟨_, rfl⟩
  have hb1 : Below w.heap.size w W1 := by rw [← hW1]; exact hb0.alloc hb0.size _
  have hr1 : W1.heap[w.heap.size]? = some (.cells #[.slice A n c, .int .i64 f] 28 (0, 0)) := by rw [← hW1]; exact (Below.heap_alloc W0 _ _ (by omega)).trans hr0
  have hr2 : W1.heap[w.heap.size + 1]? = some (.cells #[.slice none 0 0, .int .i64 0] 28 (0, 0)) := by rw [← hW1, ← hz0]; exact heap_alloc_new W0 _
  have hz1 : W1.heap.size = w.heap.size + 2 := by rw [← hW1]; simp [hz0]
  obtain ⟨x0, x1⟩ : W1.cell? ⟨w.heap.size, 0, none⟩ = some (.slice A n c) ∧ W1.cell? ⟨w.heap.size, 1, none⟩ = some (.int .i64 f) := by
    refine ⟨?_, ?_⟩ <;> (rw [cell_of_row _ _ _ _ _ _ hr1]; rfl)
  have HW1 := Lib.hid (And.intro hb1 (And.intro hr2 hz1))
  clear hb0 hr0 hb1 hr1 hr2
  go_enter Try.func39, Try.ntmps39
  go_wp2_with fail
  clear hW0 hW1 hz0 hz1
  go_loopw [5, 11] (fun v5 v11 wr => ∃ (k : Nat) (F : List SerH), k ≤ n ∧ v11 = .int .i64 k ∧ F.length ≤ k ∧ F.map absR = ((l.take k).map (cutS t)).filter (staysB t) ∧ wr.ownsRow (w.heap.size + 2) 48 3 v5 F.length (F.flatMap encR) ∧ (∀ x ∈ F, OwnQ w wr x) ∧ Below W1.heap.size W1 wr) (fun _ v11 _ => n - (intOf v11).toNat)
  case atStart => exact ⟨0, [], Nat.zero_le _, rfl, Nat.le_refl _, rfl, World.ownsRow_nil _ _ _ _, (fun x hx => absurd hx List.not_mem_nil), Below.refl _ _⟩
  case round =>
    obtain ⟨k, F, hk, rfl, hFk, hF, hown, hok, ho⟩ := hrel
    have hln := HL.out.row.len
    by_cases hlt : k < n
    · have hkl : k < hs.length := by omega
      have hbw := HW1.out.1.trans (ho.mono HW1.out.1.size)
      obtain ⟨b, o, rfl, -, hcs⟩ := HL.out.cells hkl
      obtain ⟨hc0, hc1, hc2⟩ := hcs _ hbw
      have hkl2 : k < l.length := by rw [← HLL.out, List.length_map]; exact hkl
      have hsn := map_snocF (staysB t) (cutS t) l k hkl2
      have hlk : l[k] = absR hs[k] := by simp only [← HLL.out, List.getElem_map]
      rw [hlk, ← hF] at hsn
      have hx := HL.out.ok _ (List.getElem_mem hkl)
      have hsm := hS _ (List.getElem_mem hkl)
      clear hlk
      generalize hs[k] = x at *
      obtain ⟨⟨⟨A1, n1, c1⟩, L⟩, ⟨⟨A2, n2, c2⟩, S⟩, T⟩ := x
      unfold hdV at hc0 hc1
      simp only [] at hc0 hc1 hc2 hsm
      have hxs := hx.sam
      have hxl := hx.lab
      have hxt := hx.last
      simp only [] at hxs hxl hxt
      have hsl := hxs.len
      have hz := ho.size
      have hzw : w.heap.size + 2 ≤ wr.heap.size := by rw [← HW1.out.2.2]; exact hz
      obtain ⟨wA, hwA⟩ : ∃ wA, wr.alloc (.cells #[.slice A1 n1 c1, .slice A2 n2 c2, .int .i64 T] 48 (0, 0)) = wA := ⟨_, rfl⟩
      have hbA : Below wr.heap.size wr wA := by rw [← hwA]; exact (Below.refl _ _).alloc (Nat.le_refl _) _
      have hrA : wA.heap[wr.heap.size]? = some (.cells #[.slice A1 n1 c1, .slice A2 n2 c2, .int .i64 T] 48 (0, 0)) := by rw [← hwA]; exact heap_alloc_new wr _
      obtain ⟨y0, y1, y2⟩ : wA.cell? ⟨wr.heap.size, 0, none⟩ = some (.slice A1 n1 c1) ∧ wA.cell? ⟨wr.heap.size, 1, none⟩ = some (.slice A2 n2 c2) ∧ wA.cell? ⟨wr.heap.size, 2, none⟩ = some (.int .i64 T) := by
        refine ⟨?_, ?_, ?_⟩ <;> (rw [cell_of_row _ _ _ _ _ _ hrA]; rfl)
      have KB := Lib.hid (between_any A2 n2 c2 S t maxI wA (hxs.later (hbw.trans (hbA.mono hbw.size))) (by omega))
      have HOK := Lib.hid hxs.ok
      have HX := Lib.hid (And.intro hxl (And.intro hxt (And.intro hsn (And.intro hok (And.intro ho (And.intro hbA (And.intro hrA hown)))))))
      have i0 : (0 : Int) ≤ (k : Int) := by omega
      have i1 : (k : Int) < (n : Int) := by omega
      clear hcs hx hxl hxt hxs hok hsn hF hown hbA hrA ho hbw hln
      go_wp2_with fail
      refine KB.out.mono ?_
      rintro e w1 ⟨v, rfl, hown1, hb1⟩
      obtain ⟨A3, c3, rfl, hm3, hc3⟩ := Comes.of_own hown1 (fun _ => rfl) (by decide) (fun y hy => HOK.out y (List.mem_filter.1 hy).1)
      have hml : (S.filter (insideB t maxI)).length ≤ 1000 := Nat.le_trans (List.length_filter_le ..) hsm
      obtain ⟨hxl, hxt, hsn, hok, ho, hbA, hrA, hown⟩ := HX.out
      have hzA : wr.heap.size < wA.heap.size := (Array.getElem?_eq_some_iff.1 hrA).1
      have hr1 := (hb1.block _ hzA).trans hrA
      obtain ⟨m, hm⟩ : ∃ m, (S.filter (insideB t maxI)).length = m := ⟨_, rfl⟩
      rw [hm] at hml hc3 hm3
      rw [hm]
      have hz1 := hb1.size
      have g1 : w1.cell? ⟨wr.heap.size, 1, none⟩ = some (.slice A2 n2 c2) := by rw [cell_of_row _ _ _ _ _ _ hr1]; rfl
      have gf : w1.frozen? ⟨wr.heap.size, 1, none⟩ = false := frozen_of_row w1 _ 1 _ _ hr1
      obtain ⟨w2, hw2⟩ : ∃ w2, w1.setCell ⟨wr.heap.size, 1, none⟩ (.slice A3 m c3) = w2 := ⟨_, rfl⟩
      have hr2 : w2.heap[wr.heap.size]? = some (.cells #[.slice A1 n1 c1, .slice A3 m c3, .int .i64 T] 48 (0, 0)) := by rw [← hw2]; exact heap_setCell_same w1 _ 1 _ _ _ hr1
      have hbw1 : Below wr.heap.size wr w1 := hbA.trans (hb1.mono hbA.size)
      have hbw2 : Below wr.heap.size wr w2 := by rw [← hw2]; exact hbw1.setCell (Nat.le_refl _) _
      obtain ⟨q0, q1, q2⟩ : w2.cell? ⟨wr.heap.size, 0, none⟩ = some (.slice A1 n1 c1) ∧ w2.cell? ⟨wr.heap.size, 1, none⟩ = some (.slice A3 m c3) ∧ w2.cell? ⟨wr.heap.size, 2, none⟩ = some (.int .i64 T) := by
        refine ⟨?_, ?_, ?_⟩ <;> (rw [cell_of_row _ _ _ _ _ _ hr2]; rfl)
      have hownB := own_later hown hbw2
      have hokB : ∀ x ∈ F, OwnQ w w2 x := fun x hx => (hok x hx).later (fun j hj => hbw2.block j (own_lt' (hok x hx).own j hj).2)
      have hoB : Below W1.heap.size W1 w2 := ho.trans (hbw2.mono ho.size)
      have hne : ∀ j, (Value.slice A3 m c3).ownBlock = some j → j ≠ wr.heap.size := fun j hj e => by
        have := (own_lt' hown1 j (by rw [← hm] at hj; exact hj)).1
        omega
      have hsame : w2.ownsRow wA.heap.size 51 2 (.slice A3 m c3) m ((S.filter (insideB t maxI)).flatMap encS) := by
        rw [hm] at hown1
        refine own_same hown1 (fun j hj => ?_)
        rw [← hw2]
        exact heap_setCell_other _ _ _ _ (hne j hj)
      have hnew : OwnQ w w2 (((A1, n1, c1), L), ((A3, m, c3), S.filter (insideB t maxI)), T) := ⟨hxl, hsame.mono (by omega), fun y hy => HOK.out y (List.mem_filter.1 hy).1, hxt⟩
      have hzw2 : w.heap.size + 2 ≤ w2.heap.size := by rw [← hw2]; simp; omega
      have habs : absR (((A1, n1, c1), L), ((A3, m, c3), S.filter (insideB t maxI)), T) = cutS t (absR ((((A1, n1, c1), L), ((A2, n2, c2), S), T) : SerH)) := rfl
      have HY := Lib.hid (And.intro hnew (And.intro habs (And.intro hsn (And.intro hokB (And.intro hoB hownB)))))
      have hst : staysB t (cutS t (absR ((((A1, n1, c1), L), ((A2, n2, c2), S), T) : SerH))) = (decide (0 < m) || decide (t ≤ T)) := by
        show (!(S.filter (insideB t maxI)).isEmpty || decide (t ≤ T)) = _
        rw [← hm]
        cases S.filter (insideB t maxI) <;> simp
      have HST := Lib.hid hst
      clear hown1 hc3 hm3 hb1 hr1 hzA hxl hxt hsn hok ho hbA hrA hown hr2 hbw1 hbw2 hokB hoB hnew habs hst hm hne hsame
      by_cases hstay : 0 < m ∨ t ≤ T
      · have hsb : staysB t (cutS t (absR ((((A1, n1, c1), L), ((A2, n2, c2), S), T) : SerH))) = true := by rw [HST.out]; simpa using hstay
        have HSB := Lib.hid hsb
        clear hsb
        have hcase : 0 < m ∨ (m = 0 ∧ T ≥ t) := by omega
        clear hstay
        obtain ⟨X, hX⟩ : ∃ X : SerH, (((A1, n1, c1), L), ((A3, m, c3), S.filter (insideB t maxI)), T) = X := ⟨_, rfl⟩
        have HXX := Lib.hid hX
        clear hX
        rcases hcase with h1 | ⟨rfl, h2⟩
        all_goals (
          try (have h3 : (m : Int) > 0 := by omega)
          try clear h1
          go_wp2_with (at_builtin; go_must (refine wpList_append_keepC rfl _ _ 26 rfl (w.heap.size + 2) 48 (.agg #[.slice none 0 0, .slice none 0 0, .int .i64 0]) 3 56 Try.underlying26 elemR rfl (by decide) w2 HY.out.2.2.2.2.2 rfl _ rfl rfl rfl (one3 rfl rfl rfl) (by omega) (by omega) hzw2 ?_); intro v' w' hown' hb' hz' hkp)
          have HZ := Lib.hid (And.intro hown' (And.intro hb' hkp))
          clear hown' hb' hz' hkp
          go_roundw
          case rel =>
            refine ⟨k + 1, F ++ [X], by omega, by go_num, by rw [List.length_append]; simp; omega, ?_, ?_, ?_, HY.out.2.2.2.2.1.trans (HZ.out.2.1.mono (by rw [HW1.out.2.2]; exact Nat.le_refl _))⟩
            · rw [HY.out.2.2.1, HSB.out, if_pos rfl, List.map_append, ← HXX.out]; rfl
            · rw [List.length_append, List.flatMap_append, ← HXX.out]; exact HZ.out.1
            · have hkq : ∀ x, OwnQ w w2 x → OwnQ w w' x := fun x hx => hx.later (fun j hj => HZ.out.2.2 j (own_lt' hx.own j hj).2 (fun e => own_type HY.out.2.2.2.2.2 hx.own (by decide) j e hj))
              intro x hx
              rcases List.mem_append.1 hx with hx | hx
              · exact hkq x (HY.out.2.2.2.1 x hx)
              · rw [List.mem_singleton.1 hx, ← HXX.out]; exact hkq _ HY.out.1
          case measure => simp [intOf]; omega)
      · have hsb : staysB t (cutS t (absR ((((A1, n1, c1), L), ((A2, n2, c2), S), T) : SerH))) = false := by rw [HST.out]; simpa using hstay
        have h1 : ¬ (m : Int) > 0 := by omega
        have h2 : ¬ T ≥ t := by omega
        have HSB := Lib.hid hsb
        clear hsb hstay
        go_wp2_with fail
        go_roundw
        case rel =>
          refine ⟨k + 1, F, by omega, by go_num, by omega, ?_, HY.out.2.2.2.2.2, HY.out.2.2.2.1, HY.out.2.2.2.2.1⟩
          rw [HY.out.2.2.1, HSB.out, if_neg (by decide), List.append_nil]
        case measure => simp [intOf]; omega
    · obtain rfl : k = n := by omega
      have hll : l.length = k := by rw [← HLL.out, List.length_map]; exact hln
      have hbw := HW1.out.1.trans (ho.mono HW1.out.1.size)
      obtain ⟨A', c', rfl, hS'⟩ := Sers.of_own hown rfl (fun x hx => (hok x hx).okR hbw)
      have hr2 : wr.heap[w.heap.size + 1]? = some (.cells #[.slice none 0 0, .int .i64 0] 28 (0, 0)) := (ho.block _ (by have := HW1.out.2.2; omega)).trans HW1.out.2.1
      have HF := Lib.hid (HFM.out F (by rw [hll]; exact hF))
      obtain ⟨q, hq⟩ : ∃ q, F.length = q := ⟨_, rfl⟩
      rw [hq] at hS'
      rw [hq]
      have hzr : w.heap.size + 1 < wr.heap.size := (Array.getElem?_eq_some_iff.1 hr2).1
      -- the row of the result is not the box
      have hA' : ∀ a, A' = some a → a.block ≠ w.heap.size + 1 := by
        intro a ha e
        subst ha
        rcases hown.2 with ⟨hv, _⟩ | ⟨g, cap, cur, hv, hgb, _⟩
        · injection hv with hv; cases hv
        · injection hv with hv; injection hv with hv; rw [hv] at e; simp only [] at e; omega
      have HO := Lib.hid (And.intro hbw (And.intro hS' (And.intro hok (And.intro hown (And.intro HF.out hq)))))
      clear ho hown hok hF hbw hS' hln hll
      go_wp2_with (refine wpList_store_row rfl 28 _ _ rfl (w.heap.size + 1) #[.slice A' q c', .int .i64 t] rfl rfl 28 _ hr2 info_S rfl (by simp [Value.oneCell']) ?_)
      have hr3 : (wr.setRow (w.heap.size + 1) #[.slice A' q c', .int .i64 t]).heap[w.heap.size + 1]? = some (.cells #[.slice A' q c', .int .i64 t] 28 (0, 0)) := setRow_heap wr _ _ _ _ _ hr2
      have hb3 : Below w.heap.size w (wr.setRow (w.heap.size + 1) #[.slice A' q c', .int .i64 t]) := below_setRow HO.out.1 (by omega) _
      refine bodyPost_ret (v := .agg #[.slice A' q c', .int .i64 t]) (results_cell_row (Try.results39) _ _ (w.heap.size + 1) 28 _ (0, 0) _ rfl hr3 Try.underlying28 rfl info_S) rfl ⟨A', q, c', F, rfl, ?_, HF.out, hb3⟩
      have hoth : ∀ j, j ≠ w.heap.size + 1 → (wr.setRow (w.heap.size + 1) #[.slice A' q c', .int .i64 t]).heap[j]? = wr.heap[j]? := fun j hj => setRow_other wr _ j _ hj
      have hown3 := own_same (w' := wr.setRow (w.heap.size + 1) #[.slice A' q c', .int .i64 t]) HO.out.2.2.2.1 (fun j hj => hoth j (by have := (own_lt' HO.out.2.2.2.1 j hj).1; omega))
      obtain ⟨A4, c4, hv4, hS4⟩ := Sers.of_own hown3 rfl (fun x hx => ((HO.out.2.2.1 x hx).later (fun j hj => hoth j (by have := (own_lt' (HO.out.2.2.1 x hx).own j hj).1; omega))).okR hb3)
      injection hv4 with e1 e2 e3
      subst e1 e3
      rw [hq] at hS4
      exact hS4
end Go.Proofs.Ytdjgndnllaingaa.TrW
