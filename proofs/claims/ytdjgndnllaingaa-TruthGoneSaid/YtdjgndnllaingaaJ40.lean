/-
  truth.Valid OF A STATE THAT MAY BE: THE WALK. (Printed by gen/trvalid.py.)
-/
import Derived.Test.YtdjgndnllaingaaJ39
import Derived.Test.YtdjgndnllaingaaJ22
import Derived.Test.YtdjgndnllaingaaJ33
import Derived.Deep.RegionLaw
/-
  truth.Valid OF A STATE THAT MAY BE: THE WALK. (Printed by gen/trvalid.py.)
-/
namespace Go.Proofs.Ytdjgndnllaingaa.TrW
set_option linter.unusedVariables false
set_option linter.unusedSimpArgs false
open Go.RowKit Go.Shelf LabM LbM LabW FrW TrM
theorem check_named {l : List Lab} (h : checkB l = true) : l.length ≤ 6 ∧ (∀ x ∈ l, 0 < x.1.size) ∧ ∀ x ∈ l, x.1.size ≤ maxLen ∧ x.2.size ≤ maxLen := by
  have h48 := check_48 h
  refine ⟨?_, fun x hx => ?_, fun x hx => ?_⟩
  · unfold checkB at h
    simp only [Bool.and_eq_true, decide_eq_true_eq] at h
    exact h.2
  · have := (name_48 (check_right h x hx).1).1
    simp at this
    omega
  · have := h48 x hx
    unfold maxLen
    simp at this
    omega
/-- The keys of the first series. -/
def keysE (l : List Ser) (k : Nat) : List MapEntry := (List.range k).map (fun i => ⟨keyN (padL (atS l i).1), .int .i64 1, i⟩)
set_option maxRecDepth 20000 in
set_option maxHeartbeats 8000000 in
theorem valid_yes (A : Option Addr) (n c : Nat) (hs : List SerH) (f : Int) (w : World) (hst : StV w A n c hs f) :
    Calls Try.prog 14 #[.agg #[.slice A n c, .int .i64 f]] w fun e w' => e = .returned (.bool true) ∧ Below w.heap.size w w' := by
  have hn20 := hst.n20
  have hcap : c ≤ 9223372036854775807 := hst.sers.row.cap
  have hle := hst.sers.row.le
  have HST := Lib.hid hst
  have htl : timely f = true := hst.valid.floor
  obtain ⟨w0, h0⟩ : ∃ w0, w.alloc (.cells #[.slice A n c, .int .i64 f] 28 (0, 0)) = w0 := ⟨_, rfl⟩
  have hb0 : Below w.heap.size w w0 := by rw [← h0]; exact (Below.refl _ _).alloc (Nat.le_refl _) _
  have hz0 : w0.heap.size = w.heap.size + 1 := by rw [← h0]; simp
  have hr0 : w0.heap[w.heap.size]? = some (.cells #[.slice A n c, .int .i64 f] 28 (0, 0)) := by rw [← h0]; exact heap_alloc_new w _
  obtain ⟨x0, x1⟩ : w0.cell? ⟨w.heap.size, 0, none⟩ = some (.slice A n c) ∧ w0.cell? ⟨w.heap.size, 1, none⟩ = some (.int .i64 f) := by
    refine ⟨?_, ?_⟩ <;> (rw [cell_of_row _ _ _ _ _ _ hr0]; rfl)
  have hmm := @run_makeMap Try.prog
  obtain ⟨wm, hm⟩ : ∃ wm, w0.alloc (.map #[] 0) = wm := ⟨_, rfl⟩
  have hbm : Below w0.heap.size w0 wm := by rw [← hm]; exact (Below.refl _ _).alloc (Nat.le_refl _) _
  have hrm : wm.heap[w.heap.size + 1]? = some (.map #[] 0) := by rw [← hm, ← hz0]; exact heap_alloc_new w0 _
  have H0 := Lib.hid (And.intro (later hb0 hbm) (And.intro ((hbm.block _ (by omega)).trans hr0) hrm))
  obtain ⟨l, hll⟩ : ∃ l, hs.map absR = l := ⟨_, rfl⟩
  have HLL := Lib.hid hll
  have hln : l.length = n := by rw [← hll, List.length_map]; exact hst.sers.row.len
  have xm : wm.cell? ⟨w.heap.size, 0, none⟩ = some (.slice A n c) := by rw [cell_of_row _ _ _ _ _ _ H0.out.2.1]; rfl
  clear hst hb0 hr0 hbm hrm hll
  go_enter Try.func14, Try.ntmps14
  go_wp2_with fail
  refine (timely_any f _).mono ?_
  rintro e w1 ⟨rfl, rfl⟩
  rw [htl]
  go_wp2_with fail
  clear x0 x1 xm hmm h0 hm
  go_loopw [21] (fun v21 wr => ∃ (k : Nat) (es : Array MapEntry), k ≤ n ∧ v21 = .int .i64 k ∧ es.toList.map (·.key) = (l.take k).map (fun x => keyN (padL x.1)) ∧ MapN wr (w.heap.size + 1) es ∧ wr.heap[w.heap.size]? = some (.cells #[.slice A n c, .int .i64 f] 28 (0, 0)) ∧ Below w.heap.size w wr) (fun v21 _ => n - (intOf v21).toNat)
  case atStart => exact ⟨0, #[], Nat.zero_le _, rfl, rfl, ⟨H0.out.2.2, fun x hx => by simp at hx, fun x hx => by simp at hx⟩, H0.out.2.1, H0.out.1⟩
  case round =>
    obtain ⟨k, es, hk, rfl, hes, hM, hrb, hb⟩ := hrel
    have hesz : es.size = k := by have := congrArg List.length hes; simp at this; omega
    obtain ⟨x0, x1⟩ : wr.cell? ⟨w.heap.size, 0, none⟩ = some (.slice A n c) ∧ wr.cell? ⟨w.heap.size, 1, none⟩ = some (.int .i64 f) := by
      refine ⟨?_, ?_⟩ <;> (rw [cell_of_row _ _ _ _ _ _ hrb]; rfl)
    have hzb : w.heap.size < wr.heap.size := (Array.getElem?_eq_some_iff.1 hrb).1
    have hzm : w.heap.size + 1 < wr.heap.size := (Array.getElem?_eq_some_iff.1 hM.at_).1
    by_cases hlt : k < n
    · have hkl : k < hs.length := by have := HST.out.sers.row.len; omega
      have hkl2 : k < l.length := by omega
      obtain ⟨b, o, rfl, -, hcs⟩ := HST.out.sers.cells hkl
      obtain ⟨hc0, hc1, hc2⟩ := hcs _ hb
      have hx := HST.out.sers.ok _ (List.getElem_mem hkl)
      have hxk : absR hs[k] = l[k] := by simp only [← HLL.out, List.getElem_map]
      have hval := HST.out.valid
      rw [HLL.out] at hval
      have hR := hval.right l[k] (List.getElem_mem hkl2)
      have hVAL := Lib.hid hval
      obtain ⟨x, hxe⟩ : ∃ x, hs[k] = x := ⟨_, rfl⟩
      rw [hxe] at hc0 hc1 hc2 hx hxk
      have HXE := Lib.hid hxe
      rw [← hxk] at hR
      have HXK := Lib.hid hxk
      clear hxe hxk hval
      obtain ⟨⟨⟨A1, n1, c1⟩, L⟩, ⟨⟨A2, n2, c2⟩, S⟩, T⟩ := x
      have hRL : checkB L = true := hR.lab
      have hnm := check_named (show checkB L = true from hR.lab)
      have hLn : L.length = n1 := hx.lab.len
      have hne1 : 1 ≤ n1 := by
        have h2 : checkB L = true := hR.lab
        unfold checkB at h2
        simp only [Bool.and_eq_true] at h2
        have h3 := h2.1.2
        cases hL : L with
        | nil => rw [hL] at h3; cases h3
        | cons y r => rw [hL] at hLn; simp at hLn; omega
      unfold hdV at hc0 hc1
      obtain ⟨wA, hwA⟩ : ∃ wA, wr.alloc (.cells #[.slice A1 n1 c1, .slice A2 n2 c2, .int .i64 T] 48 (0, 0)) = wA := ⟨_, rfl⟩
      have hbA : Below wr.heap.size wr wA := by rw [← hwA]; exact (Below.refl _ _).alloc (Nat.le_refl _) _
      have hrA : wA.heap[wr.heap.size]? = some (.cells #[.slice A1 n1 c1, .slice A2 n2 c2, .int .i64 T] 48 (0, 0)) := by rw [← hwA]; exact heap_alloc_new wr _
      have hzA : wr.heap.size < wA.heap.size := (Array.getElem?_eq_some_iff.1 hrA).1
      have hrbA := (hbA.block _ hzb).trans hrb
      have hbwA := later hb hbA
      have hbd : Below w.heap.size w wA.drew := ⟨hbwA.os, hbwA.tape, hbwA.output, hbwA.size, hbwA.block⟩
      have KR : Hid (Calls Try.prog 30 #[.agg #[.slice A1 n1 c1, .slice A2 n2 c2, .int .i64 T], .int .i64 f] wA.drew fun e w' => e = .returned (.bool true) ∧ Below wA.drew.heap.size wA.drew w') := Lib.hid (right_yes ((((A1, n1, c1), L), ((A2, n2, c2), S), T) : SerH) f wA.drew (hx.later hbd) hR)
      have HW := Lib.hid (fun (W : World) (hW : Below wA.drew.heap.size wA.drew W) =>
        have hb' : Below wA.heap.size wA W := ⟨hW.os, hW.tape, hW.output, hW.size, hW.block⟩
        And.intro ((hb'.block _ (by omega)).trans hrbA) (And.intro ((hb'.block _ hzA).trans hrA) (And.intro (later (later hb hbA) hb') ((hb'.block _ (by omega)).trans ((hbA.block _ hzm).trans hM.at_)))))
      have hFIN := Lib.hid (fun (W : World) (hW : Below wA.drew.heap.size wA.drew W) =>
        key_round (w := w) (W := W) (b := w.heap.size + 1) (es := es) ⟨(HW.out W hW).2.2.2, hM.born, hM.keys⟩ (Nat.le_succ _) (HW.out W hW).2.2.1 (hx.lab.later (HW.out W hW).2.2.1) hne1 (show n1 ≤ 6 by have h6 : L.length ≤ 6 := hnm.1; omega) (by
          intro y hy e
          have h1 : y.key ∈ es.toList.map (·.key) := List.mem_map.2 ⟨y, hy, rfl⟩
          rw [hes] at h1
          obtain ⟨z, hz, hzk⟩ := List.mem_map.1 h1
          obtain ⟨i, hi, rfl⟩ := List.getElem_of_mem hz
          rw [List.length_take] at hi
          rw [List.getElem_take] at hzk
          have hil : i < l.length := by omega
          have h2 := keyN_inj (hzk.trans e)
          have hl3 := check_named (hVAL.out.right l[i] (List.getElem_mem hil)).lab
          have h3 := padL_inj _ _ _ _ hl3.2.1 hnm.2.1 h2
          have h4 : l[i].1 = l[k].1 := h3.trans (congrArg (·.1) HXK.out)
          have := uniq (s := l) hVAL.out.ord hil hkl2 h4
          omega))
      have i0 : (0 : Int) ≤ (k : Int) := by omega
      have i1 : (k : Int) < (n : Int) := by omega
      have HES := Lib.hid (And.intro hes (And.intro hb hx))
      obtain ⟨z0, z1⟩ : wA.cell? ⟨w.heap.size, 0, none⟩ = some (.slice (some ⟨b, o, none⟩) n c) ∧ wA.cell? ⟨w.heap.size, 1, none⟩ = some (.int .i64 f) := by
        refine ⟨?_, ?_⟩ <;> (rw [cell_of_row _ _ _ _ _ _ hrbA]; rfl)
      obtain ⟨y0, y1, y2⟩ : wA.cell? ⟨wr.heap.size, 0, none⟩ = some (.slice A1 n1 c1) ∧ wA.cell? ⟨wr.heap.size, 1, none⟩ = some (.slice A2 n2 c2) ∧ wA.cell? ⟨wr.heap.size, 2, none⟩ = some (.int .i64 T) := by
        refine ⟨?_, ?_, ?_⟩ <;> (rw [cell_of_row _ _ _ _ _ _ hrA]; rfl)
      have K2 := Lib.hid (fun (W : World) (hW : Below wA.drew.heap.size wA.drew W) =>
        have hq := HW.out W hW
        (⟨by rw [cell_of_row _ _ _ _ _ _ hq.1]; rfl, by rw [cell_of_row _ _ _ _ _ _ hq.2.1]; rfl, by rw [cell_of_row _ _ _ _ _ _ hq.2.1]; rfl, by rw [cell_of_row _ _ _ _ _ _ hq.2.1]; rfl⟩ : W.cell? ⟨w.heap.size, 1, none⟩ = some (.int .i64 f) ∧ W.cell? ⟨wr.heap.size, 0, none⟩ = some (.slice A1 n1 c1) ∧ W.cell? ⟨wr.heap.size, 1, none⟩ = some (.slice A2 n2 c2) ∧ W.cell? ⟨wr.heap.size, 2, none⟩ = some (.int .i64 T)))
      clear hes hb hrA hrbA hbA hx hM hrb x0 x1 hR
      by_cases hk0 : k = 0
      · subst hk0
        simp only [Nat.zero_mul, Nat.add_zero] at hc0 hc1 hc2
        go_wp2_with fail
        refine wp_region_held_drew (S := (fun W : World => W.cell? ⟨w.heap.size, 1, none⟩ = some (.int .i64 f) ∧ W.cell? ⟨wr.heap.size, 0, none⟩ = some (.slice A1 n1 c1) ∧ W.cell? ⟨wr.heap.size, 1, none⟩ = some (.slice A2 n2 c2) ∧ W.cell? ⟨wr.heap.size, 2, none⟩ = some (.int .i64 T))) (by kernel_rfl) ⟨z1, y0, y1, y2⟩ (fun hHeld => ?_)
        refine wpAnyH_take (i := 0) (v := ?_) rfl (by kernel_rfl) (by kernel_rfl) (by kernel_rfl) (fun _ _ _ h => h) (Or.inl ⟨by rfl, ?_⟩) (by assumption) ?_
        rotate_left
        · intro w hSw
          (try dsimp only at hSw)
          go_simp
          (try with_reducible rfl)
        (try simp only [Act.put, List.getElem_toArray, List.getElem_cons_succ, List.getElem_cons_zero, List.setIfInBounds_toArray, List.set_cons_zero, List.set_cons_succ])
        refine wpAnyH_take (i := 1) (v := ?_) rfl (by kernel_rfl) (by kernel_rfl) (by kernel_rfl) (fun _ _ _ h => h) (Or.inl ⟨by rfl, ?_⟩) (by assumption) ?_
        rotate_left
        · intro w hSw
          (try dsimp only at hSw)
          go_simp
          (try with_reducible rfl)
        (try simp only [Act.put, List.getElem_toArray, List.getElem_cons_succ, List.getElem_cons_zero, List.setIfInBounds_toArray, List.set_cons_zero, List.set_cons_succ])
        refine wpAnyH_take (i := 2) (v := ?_) rfl (by kernel_rfl) (by kernel_rfl) (by kernel_rfl) (fun _ _ _ h => h) (Or.inl ⟨by rfl, ?_⟩) (by assumption) ?_
        rotate_left
        · intro w hSw
          (try dsimp only at hSw)
          go_simp
          (try with_reducible rfl)
        (try simp only [Act.put, List.getElem_toArray, List.getElem_cons_succ, List.getElem_cons_zero, List.setIfInBounds_toArray, List.set_cons_zero, List.set_cons_succ])
        refine wpAnyH_ready (rs := [3]) (by kernel_rfl) (by simp) ?_
        refine AllReadyH.cons rfl (fun K hK => ?_) AllReadyH.nil
        go_simp
        go_at_call 30
        refine KR.out.mono ?_
        rintro e w2 ⟨rfl, hb2⟩
        (try go_wp2_with fail)
        refine hK.out _ _ (K2.out _ hb2) (fun hHeld2 => ?_)
        clear hK K hHeld
        (try simp only [Act.put, List.setIfInBounds_toArray, List.set_cons_zero, List.set_cons_succ])
        refine wpAnyH_take (i := 4) (v := ?_) rfl (by kernel_rfl) (by kernel_rfl) (by kernel_rfl) (fun _ _ _ h => h) (Or.inl ⟨by rfl, ?_⟩) (by assumption) ?_
        rotate_left
        · intro w hSw
          (try dsimp only at hSw)
          go_simp
          (try with_reducible rfl)
        (try simp only [Act.put, List.getElem_toArray, List.getElem_cons_succ, List.getElem_cons_zero, List.setIfInBounds_toArray, List.set_cons_zero, List.set_cons_succ])
        refine wpAnyH_take (i := 5) (v := ?_) rfl (by kernel_rfl) (by kernel_rfl) (by kernel_rfl) (fun _ _ _ h => h) (Or.inl ⟨by rfl, ?_⟩) (by assumption) ?_
        rotate_left
        · intro w hSw
          (try dsimp only at hSw)
          go_simp
          (try with_reducible rfl)
        (try simp only [Act.put, List.getElem_toArray, List.getElem_cons_succ, List.getElem_cons_zero, List.setIfInBounds_toArray, List.set_cons_zero, List.set_cons_succ])
        refine wpAnyH_take (i := 6) (v := ?_) rfl (by kernel_rfl) (by kernel_rfl) (by kernel_rfl) (fun _ _ _ h => h) (Or.inl ⟨by rfl, ?_⟩) (by assumption) ?_
        rotate_left
        · intro w hSw
          (try dsimp only at hSw)
          go_simp
          (try with_reducible rfl)
        (try simp only [Act.put, List.getElem_toArray, List.getElem_cons_succ, List.getElem_cons_zero, List.setIfInBounds_toArray, List.set_cons_zero, List.set_cons_succ])
        refine wpAnyH_take (i := 7) (v := ?_) rfl (by kernel_rfl) (by kernel_rfl) (by kernel_rfl) (fun _ _ _ h => h) (Or.inl ⟨by rfl, ?_⟩) (by assumption) ?_
        rotate_left
        · intro w hSw
          (try dsimp only at hSw)
          go_simp
          (try with_reducible rfl)
        (try simp only [Act.put, List.getElem_toArray, List.getElem_cons_succ, List.getElem_cons_zero, List.setIfInBounds_toArray, List.set_cons_zero, List.set_cons_succ])
        refine wpAnyH_take (i := 8) (v := ?_) rfl (by kernel_rfl) (by kernel_rfl) (by kernel_rfl) (fun _ _ _ h => h) (Or.inl ⟨by rfl, ?_⟩) (by assumption) ?_
        rotate_left
        · intro w hSw
          (try dsimp only at hSw)
          go_simp
          (try with_reducible rfl)
        (try simp only [Act.put, List.getElem_toArray, List.getElem_cons_succ, List.getElem_cons_zero, List.setIfInBounds_toArray, List.set_cons_zero, List.set_cons_succ])
        refine wpAnyH_take (i := 9) (v := undef) rfl (by kernel_rfl) (by kernel_rfl) (by kernel_rfl) (fun _ _ _ h => h) (Or.inr ⟨by simp [Region.wanted, yielded], rfl⟩) (by assumption) ?_
        (try simp only [Act.put, List.getElem_toArray, List.getElem_cons_succ, List.getElem_cons_zero, List.setIfInBounds_toArray, List.set_cons_zero, List.set_cons_succ])
        refine wpAnyH_take (i := 10) (v := undef) rfl (by kernel_rfl) (by kernel_rfl) (by kernel_rfl) (fun _ _ _ h => h) (Or.inr ⟨by simp [Region.wanted, yielded], rfl⟩) (by assumption) ?_
        (try simp only [Act.put, List.getElem_toArray, List.getElem_cons_succ, List.getElem_cons_zero, List.setIfInBounds_toArray, List.set_cons_zero, List.set_cons_succ])
        refine wpAnyH_take (i := 11) (v := undef) rfl (by kernel_rfl) (by kernel_rfl) (by kernel_rfl) (fun _ _ _ h => h) (Or.inr ⟨by simp [Region.wanted, yielded], rfl⟩) (by assumption) ?_
        (try simp only [Act.put, List.getElem_toArray, List.getElem_cons_succ, List.getElem_cons_zero, List.setIfInBounds_toArray, List.set_cons_zero, List.set_cons_succ])
        refine wpAnyH_take (i := 12) (v := undef) rfl (by kernel_rfl) (by kernel_rfl) (by kernel_rfl) (fun _ _ _ h => h) (Or.inr ⟨by simp [Region.wanted, yielded], rfl⟩) (by assumption) ?_
        (try simp only [Act.put, List.getElem_toArray, List.getElem_cons_succ, List.getElem_cons_zero, List.setIfInBounds_toArray, List.set_cons_zero, List.set_cons_succ])
        refine wpAnyH_take (i := 13) (v := undef) rfl (by kernel_rfl) (by kernel_rfl) (by kernel_rfl) (fun _ _ _ h => h) (Or.inr ⟨by simp [Region.wanted, yielded], rfl⟩) (by assumption) ?_
        (try simp only [Act.put, List.getElem_toArray, List.getElem_cons_succ, List.getElem_cons_zero, List.setIfInBounds_toArray, List.set_cons_zero, List.set_cons_succ])
        refine wpAnyH_take (i := 14) (v := undef) rfl (by kernel_rfl) (by kernel_rfl) (by kernel_rfl) (fun _ _ _ h => h) (Or.inr ⟨by simp [Region.wanted, yielded], rfl⟩) (by assumption) ?_
        (try simp only [Act.put, List.getElem_toArray, List.getElem_cons_succ, List.getElem_cons_zero, List.setIfInBounds_toArray, List.set_cons_zero, List.set_cons_succ])
        refine wpAnyH_take (i := 15) (v := undef) rfl (by kernel_rfl) (by kernel_rfl) (by kernel_rfl) (fun _ _ _ h => h) (Or.inr ⟨by simp [Region.wanted, yielded], rfl⟩) (by assumption) ?_
        (try simp only [Act.put, List.getElem_toArray, List.getElem_cons_succ, List.getElem_cons_zero, List.setIfInBounds_toArray, List.set_cons_zero, List.set_cons_succ])
        refine wpAnyH_take (i := 16) (v := undef) rfl (by kernel_rfl) (by kernel_rfl) (by kernel_rfl) (fun _ _ _ h => h) (Or.inr ⟨by simp [Region.wanted, yielded], rfl⟩) (by assumption) ?_
        (try simp only [Act.put, List.getElem_toArray, List.getElem_cons_succ, List.getElem_cons_zero, List.setIfInBounds_toArray, List.set_cons_zero, List.set_cons_succ])
        refine wpAnyH_take (i := 17) (v := undef) rfl (by kernel_rfl) (by kernel_rfl) (by kernel_rfl) (fun _ _ _ h => h) (Or.inr ⟨by simp [Region.wanted, yielded], rfl⟩) (by assumption) ?_
        (try simp only [Act.put, List.getElem_toArray, List.getElem_cons_succ, List.getElem_cons_zero, List.setIfInBounds_toArray, List.set_cons_zero, List.set_cons_succ])
        refine wpAnyH_take (i := 18) (v := undef) rfl (by kernel_rfl) (by kernel_rfl) (by kernel_rfl) (fun _ _ _ h => h) (Or.inr ⟨by simp [Region.wanted, yielded], rfl⟩) (by assumption) ?_
        (try simp only [Act.put, List.getElem_toArray, List.getElem_cons_succ, List.getElem_cons_zero, List.setIfInBounds_toArray, List.set_cons_zero, List.set_cons_succ])
        refine wpAnyH_take (i := 19) (v := undef) rfl (by kernel_rfl) (by kernel_rfl) (by kernel_rfl) (fun _ _ _ h => h) (Or.inr ⟨by simp [Region.wanted, yielded], rfl⟩) (by assumption) ?_
        (try simp only [Act.put, List.getElem_toArray, List.getElem_cons_succ, List.getElem_cons_zero, List.setIfInBounds_toArray, List.set_cons_zero, List.set_cons_succ])
        refine wpAnyH_take (i := 20) (v := ?_) rfl (by kernel_rfl) (by kernel_rfl) (by kernel_rfl) (fun _ _ _ h => h) (Or.inl ⟨by rfl, ?_⟩) (by assumption) ?_
        rotate_left
        · intro w hSw
          (try dsimp only at hSw)
          go_simp
          (try with_reducible rfl)
        (try simp only [Act.put, List.getElem_toArray, List.getElem_cons_succ, List.getElem_cons_zero, List.setIfInBounds_toArray, List.set_cons_zero, List.set_cons_succ])
        refine wpAnyH_take (i := 21) (v := ?_) rfl (by kernel_rfl) (by kernel_rfl) (by kernel_rfl) (fun _ _ _ h => h) (Or.inl ⟨by rfl, ?_⟩) (by assumption) ?_
        rotate_left
        · intro w hSw
          (try dsimp only at hSw)
          go_simp
          (try with_reducible rfl)
        (try simp only [Act.put, List.getElem_toArray, List.getElem_cons_succ, List.getElem_cons_zero, List.setIfInBounds_toArray, List.set_cons_zero, List.set_cons_succ])
        refine wpAnyH_done (by kernel_rfl) ?_ _
        have HBW := Lib.hid hb2
        clear hHeld2 K2 KR hb2 z0 z1 y0 y1 y2
        obtain ⟨wk, wc, s0, s1, s2, s3, s4, s5, s6, s7, s8, s9, s10, s11, m1, m2, hk1, hcp, hrc, hkv, l1, l2, l3, l4, hM2, hkk, hfin⟩ := hFIN.out w2 HBW.out
        have hk1' : w2.alloc (.cells #[.string ⟨#[]⟩, .string ⟨#[]⟩, .string ⟨#[]⟩, .string ⟨#[]⟩, .string ⟨#[]⟩, .string ⟨#[]⟩, .string ⟨#[]⟩, .string ⟨#[]⟩, .string ⟨#[]⟩, .string ⟨#[]⟩, .string ⟨#[]⟩, .string ⟨#[]⟩] 78 (0, 0)) = wk := hk1
        have hqq := HW.out w2 HBW.out
        have q0 : wk.cell? ⟨wr.heap.size, 0, none⟩ = some (.slice A1 n1 c1) := by
          rw [← hk1]
          refine (World.cell?_of_block (Below.heap_alloc _ _ _ (Array.getElem?_eq_some_iff.1 hqq.2.1).1)).trans ?_
          rw [cell_of_row _ _ _ _ _ _ hqq.2.1]; rfl
        obtain ⟨d0, d1, d2, d3, d4, d5, d6, d7, d8, d9, d10, d11⟩ : wc.cell? ⟨w2.heap.size, 0, none⟩ = some (.string s0) ∧ wc.cell? ⟨w2.heap.size, 1, none⟩ = some (.string s1) ∧ wc.cell? ⟨w2.heap.size, 2, none⟩ = some (.string s2) ∧ wc.cell? ⟨w2.heap.size, 3, none⟩ = some (.string s3) ∧ wc.cell? ⟨w2.heap.size, 4, none⟩ = some (.string s4) ∧ wc.cell? ⟨w2.heap.size, 5, none⟩ = some (.string s5) ∧ wc.cell? ⟨w2.heap.size, 6, none⟩ = some (.string s6) ∧ wc.cell? ⟨w2.heap.size, 7, none⟩ = some (.string s7) ∧ wc.cell? ⟨w2.heap.size, 8, none⟩ = some (.string s8) ∧ wc.cell? ⟨w2.heap.size, 9, none⟩ = some (.string s9) ∧ wc.cell? ⟨w2.heap.size, 10, none⟩ = some (.string s10) ∧ wc.cell? ⟨w2.heap.size, 11, none⟩ = some (.string s11) := by
          refine ⟨?_, ?_, ?_, ?_, ?_, ?_, ?_, ?_, ?_, ?_, ?_, ?_⟩ <;> (rw [cell_of_row _ _ _ _ _ _ hrc]; rfl)
        have HM2 := Lib.hid (And.intro hM2 (And.intro hkk (And.intro hfin (And.intro hqq hkv))))
        clear hk1 hM2 hkk hfin hqq hkv hrc
        rw [hesz] at l2 l4
        replace l4 : (Instr.entryStore 75 (.map (some (w.heap.size + 1))) (.int .i64 ((0 : Nat) : Int)) (.int .i64 (IntKind.i64.wrap 1))).run Try.prog m1 = .ok () m2 := l4
        simp only [Int.natCast_zero] at l2 l4
        go_wp2_with fail
        go_region_law
          (refine step_copy_runI (by rfl) _ _ _ _ (by rfl) _ _ (by rfl) (by rfl) (hcp _) ?_)
        clear q0 hcp hk1'
        go_wp2_with fail
        go_region
        all_goals (
          go_wp2_with fail
          go_roundw)
        all_goals first
          | (simp [intOf]; omega)
          | (obtain ⟨hM2, hkk, hfin, hqq, hkv⟩ := HM2.out
             refine ⟨1, _, by omega, by go_num, ?_, hM2, (hkk _ (Nat.lt_trans (by omega) (Array.getElem?_eq_some_iff.1 hqq.2.1).1) (by omega)).trans hqq.1, hfin⟩
             rw [Array.toList_push, List.map_append, HES.out.1, take_snocL l 0 hkl2, List.map_append]
             congr 1
             show [keyN (padL L)] = [keyN (padL (l[0]'hkl2).1)]
             rw [← HXK.out]; rfl)
      · have hpos : 0 < k := by omega
        obtain ⟨p, hp⟩ : ∃ p, k - 1 = p := ⟨_, rfl⟩
        have hpk : p < k := by omega
        have hps : p < hs.length := by omega
        have hpl : p < l.length := by omega
        obtain ⟨b', o', e', -, hcs'⟩ := HST.out.sers.cells hps
        injection e' with e'
        injection e' with e1 e2
        subst e1 e2
        obtain ⟨hq0, -, -⟩ := hcs' wA.drew hbd
        have hx0 := HST.out.sers.ok _ (List.getElem_mem hps)
        have hxk0 : (absR hs[p]).1 = l[p].1 := by simp only [← HLL.out, List.getElem_map]
        have hord : l.Pairwise (fun x y => lessL x.1 y.1 = true) := hVAL.out.ord
        have hless : lessL l[p].1 l[k].1 = true := (List.pairwise_iff_getElem.1 hord) p k hpl hkl2 hpk
        rw [← hxk0, ← HXK.out] at hless
        have hmem0 : l[p]'hpl ∈ l := List.getElem_mem hpl
        have hR0 := hVAL.out.right _ hmem0
        have hfew0 := few_of_check hR0.lab
        rw [← hxk0] at hfew0
        generalize hs[p] = x0 at *
        obtain ⟨⟨⟨A0, n0, c0⟩, L0⟩, s0, T0⟩ := x0
        unfold hdV at hq0
        have hfew := few_of_check (show checkB L = true from hRL)
        have KL := Lib.hid (fun (W : World) (hW : Below wA.drew.heap.size wA.drew W) => (by
          have := lless_any A0 n0 c0 L0 A1 n1 c1 L W (hx0.lab.later (HW.out W hW).2.2.1) (HES.out.2.2.lab.later (HW.out W hW).2.2.1) hfew0 hfew
          rw [show lessL L0 L = true from hless] at this
          exact this : Calls Try.prog 31 #[.slice A0 n0 c0, .slice A1 n1 c1] W fun e w' => e = .returned (.bool true) ∧ Below W.heap.size W w'))
        have q1 : wA.cell? ⟨b, o + p * 3, none⟩ = some (.slice A0 n0 c0) := hq0
        have K3 := Lib.hid (fun (W : World) (hW : Below wA.drew.heap.size wA.drew W) =>
          have hq := HW.out W hW
          (⟨by rw [cell_of_row _ _ _ _ _ _ hq.1]; rfl, by rw [cell_of_row _ _ _ _ _ _ hq.1]; rfl, by rw [cell_of_row _ _ _ _ _ _ hq.2.1]; rfl, by rw [cell_of_row _ _ _ _ _ _ hq.2.1]; rfl, by rw [cell_of_row _ _ _ _ _ _ hq.2.1]; rfl, (hcs' W hq.2.2.1).1⟩ : W.cell? ⟨w.heap.size, 0, none⟩ = some (.slice (some ⟨b, o, none⟩) n c) ∧ W.cell? ⟨w.heap.size, 1, none⟩ = some (.int .i64 f) ∧ W.cell? ⟨wr.heap.size, 0, none⟩ = some (.slice A1 n1 c1) ∧ W.cell? ⟨wr.heap.size, 1, none⟩ = some (.slice A2 n2 c2) ∧ W.cell? ⟨wr.heap.size, 2, none⟩ = some (.int .i64 T) ∧ W.cell? ⟨b, o + p * 3, none⟩ = some (.slice A0 n0 c0)))
        have K4 := Lib.hid (fun (W W' : World) (hW : Below wA.drew.heap.size wA.drew W) (hW' : Below W.heap.size W W') => K3.out W' (later hW hW'))
        have i2 : (0 : Int) ≤ (p : Int) := by omega
        have i3 : (p : Int) < (n : Int) := by omega
        clear hq0 hcs' hx0 hxk0 hless hR0 hfew0 hfew K2
        go_wp2_with fail
        have hkp : (k : Int) - 1 = (p : Int) := by omega
        have hwr : IntKind.i64.wrap (p : Int) = (p : Int) := IntWalk.i64_in _ (by omega)
        go_region_held3 (fun W : World => W.cell? ⟨w.heap.size, 0, none⟩ = some (.slice (some ⟨b, o, none⟩) n c) ∧ W.cell? ⟨w.heap.size, 1, none⟩ = some (.int .i64 f) ∧ W.cell? ⟨wr.heap.size, 0, none⟩ = some (.slice A1 n1 c1) ∧ W.cell? ⟨wr.heap.size, 1, none⟩ = some (.slice A2 n2 c2) ∧ W.cell? ⟨wr.heap.size, 2, none⟩ = some (.int .i64 T) ∧ W.cell? ⟨b, o + p * 3, none⟩ = some (.slice A0 n0 c0))
          (first | exact ⟨z0, z1, y0, y1, y2, q1⟩ | exact K3.out _ (by assumption) | exact K4.out _ _ (by assumption) (by assumption))
          (first
          | (go_at_call 30; refine KR.out.mono ?_; rintro e w2 ⟨rfl, hb2⟩; have HB2 := Lib.hid hb2)
          | (go_at_call 31; refine (KL.out _ (by assumption)).mono ?_; rintro e w3 ⟨rfl, hb3⟩; have HB3 := Lib.hid hb3))
        clear hwr hkp
        have HBW := Lib.hid (later HB2.out HB3.out)
        clear HB2 HB3 hb2 hb3 K3 K4 KR KL z0 z1 y0 y1 y2 q1
        obtain ⟨wk, wc, s0, s1, s2, s3, s4, s5, s6, s7, s8, s9, s10, s11, m1, m2, hk1, hcp, hrc, hkv, l1, l2, l3, l4, hM2, hkk, hfin⟩ := hFIN.out w3 HBW.out
        have hk1' : w3.alloc (.cells #[.string ⟨#[]⟩, .string ⟨#[]⟩, .string ⟨#[]⟩, .string ⟨#[]⟩, .string ⟨#[]⟩, .string ⟨#[]⟩, .string ⟨#[]⟩, .string ⟨#[]⟩, .string ⟨#[]⟩, .string ⟨#[]⟩, .string ⟨#[]⟩, .string ⟨#[]⟩] 78 (0, 0)) = wk := hk1
        have hqq := HW.out w3 HBW.out
        have q0 : wk.cell? ⟨wr.heap.size, 0, none⟩ = some (.slice A1 n1 c1) := by
          rw [← hk1]
          refine (World.cell?_of_block (Below.heap_alloc _ _ _ (Array.getElem?_eq_some_iff.1 hqq.2.1).1)).trans ?_
          rw [cell_of_row _ _ _ _ _ _ hqq.2.1]; rfl
        obtain ⟨d0, d1, d2, d3, d4, d5, d6, d7, d8, d9, d10, d11⟩ : wc.cell? ⟨w3.heap.size, 0, none⟩ = some (.string s0) ∧ wc.cell? ⟨w3.heap.size, 1, none⟩ = some (.string s1) ∧ wc.cell? ⟨w3.heap.size, 2, none⟩ = some (.string s2) ∧ wc.cell? ⟨w3.heap.size, 3, none⟩ = some (.string s3) ∧ wc.cell? ⟨w3.heap.size, 4, none⟩ = some (.string s4) ∧ wc.cell? ⟨w3.heap.size, 5, none⟩ = some (.string s5) ∧ wc.cell? ⟨w3.heap.size, 6, none⟩ = some (.string s6) ∧ wc.cell? ⟨w3.heap.size, 7, none⟩ = some (.string s7) ∧ wc.cell? ⟨w3.heap.size, 8, none⟩ = some (.string s8) ∧ wc.cell? ⟨w3.heap.size, 9, none⟩ = some (.string s9) ∧ wc.cell? ⟨w3.heap.size, 10, none⟩ = some (.string s10) ∧ wc.cell? ⟨w3.heap.size, 11, none⟩ = some (.string s11) := by
          refine ⟨?_, ?_, ?_, ?_, ?_, ?_, ?_, ?_, ?_, ?_, ?_, ?_⟩ <;> (rw [cell_of_row _ _ _ _ _ _ hrc]; rfl)
        have HM2 := Lib.hid (And.intro hM2 (And.intro hkk (And.intro hfin (And.intro hqq hkv))))
        clear hk1 hM2 hkk hfin hqq hkv hrc
        rw [hesz] at l2 l4
        replace l4 : (Instr.entryStore 75 (.map (some (w.heap.size + 1))) (.int .i64 ((k : Nat) : Int)) (.int .i64 (IntKind.i64.wrap 1))).run Try.prog m1 = .ok () m2 := l4
        go_wp2_with fail
        go_region_law
          (refine step_copy_runI (by rfl) _ _ _ _ (by rfl) _ _ (by rfl) (by rfl) (hcp _) ?_)
        clear q0 hcp hk1'
        go_wp2_with fail
        go_region
        all_goals (
          go_wp2_with fail
          go_roundw)
        all_goals first
          | (simp [intOf]; omega)
          | (obtain ⟨hM2, hkk, hfin, hqq, hkv⟩ := HM2.out
             refine ⟨k + 1, _, by omega, by go_num, ?_, hM2, (hkk _ (Nat.lt_trans (by omega) (Array.getElem?_eq_some_iff.1 hqq.2.1).1) (by omega)).trans hqq.1, hfin⟩
             rw [Array.toList_push, List.map_append, HES.out.1, take_snocL l k hkl2, List.map_append]
             congr 1
             show [keyN (padL L)] = [keyN (padL (l[k]'hkl2).1)]
             rw [← HXK.out]; rfl)
    · obtain rfl : k = n := by omega
      have HB := Lib.hid hb
      have hlen : ∀ ty, (Builtin.len_ #[75] ty #[.map (some (w.heap.size + 1))]).run Try.prog wr = .ok (.int .i64 (k : Int)) wr := by
        intro ty
        simp [Builtin.len_, run_underlying Try.underlying75, MapKept.run_getObj_map hM.at_, Result.andThen, goInt, hesz]
      clear hb hes hM hrb
      go_wp2_with fail
      go_ret
      exact ⟨rfl, HB.out⟩
end Go.Proofs.Ytdjgndnllaingaa.TrW
