/-
  ALL SERIES: THE PLAIN LAW, further: a state that may be stays one; what the changes tell is the state.
-/
import Derived.Test.YtdjgndnllaingaaJ15
/-
  ALL SERIES: THE PLAIN LAW, further: a state that may be stays one; what the changes tell is the state.
-/
namespace Go.Proofs.Ytdjgndnllaingaa.TrM
set_option linter.unusedVariables false
open LabM LbM LabW FrW
def labs (s : List Ser) : List (List Lab) := s.map (·.1)
theorem ord_labs {s : List Ser} : s.Pairwise (fun x y => lessL x.1 y.1 = true) ↔ (labs s).Pairwise (fun a b => lessL a b = true) := by
  unfold labs; rw [List.pairwise_map]
theorem ord_of {s t : List Ser} (h : labs t = labs s) (ho : s.Pairwise (fun x y => lessL x.1 y.1 = true)) : t.Pairwise (fun x y => lessL x.1 y.1 = true) := by
  rw [ord_labs] at ho ⊢; rw [h]; exact ho
theorem labs_set {s : List Ser} {i : Nat} (hi : i < s.length) (y : Ser) (hy : y.1 = s[i].1) : labs (s.set i y) = labs s := by
  unfold labs
  rw [List.map_set]
  apply List.ext_getElem (by simp)
  intro j h1 h2
  rw [List.getElem_set]
  split
  · rename_i h; subst h; simp [hy]
  · rfl
theorem right_mono {f : Int} {x : Ser} (h : RightS f x) : ∀ y ∈ x.2.1, y.1 ≤ x.2.2 := fun y hy => (h.ins y hy).2
/-- A state with a sample more may be. -/
theorem valid_put {s : St} (hv : Valid s) {l : List Lab} {x : Smp} {gen : Int} (ha : allowed s l x gen = (0, false)) : Valid (putM s l x) := by
  obtain ⟨a1, a2, a3, a4, a5⟩ := allowed_ok ha
  rw [timely_iff] at a3
  unfold putM
  rcases a5 with ⟨hf, hlen⟩ | ⟨i, hf, hlast, hlen⟩
  · rw [hf]
    simp only []
    rw [fnd_none] at hf
    have hne : ∀ y ∈ s.1, keyL y.1 ≠ keyL l := fun y hy e => hf y hy (key_same (hv.right y hy).lab a1 e)
    refine ⟨hv.floor, ?_, ?_, ?_⟩
    · simp only [List.length_append, List.length_cons, List.length_take, List.length_drop]
      have := place_le s.1 l
      omega
    · show List.Pairwise _ (s.1.take (place s.1 l) ++ (l, [x], x.1) :: s.1.drop (place s.1 l))
      have h1 : ∀ y ∈ s.1.take (place s.1 l), lessL y.1 l = true := by
        intro y hy
        obtain ⟨i, hi, rfl⟩ := List.getElem_of_mem hy
        rw [List.length_take] at hi
        rw [List.getElem_take]
        exact place_ahead (by omega) (by omega)
      have h2 : ∀ y ∈ s.1.drop (place s.1 l), lessL l y.1 = true := by
        intro y hy
        obtain ⟨i, hi, rfl⟩ := List.getElem_of_mem hy
        rw [List.length_drop] at hi
        rw [List.getElem_drop]
        exact place_behind hv.ord (by omega) (by omega) (hne _ (List.getElem_mem _))
      rw [List.pairwise_append, List.pairwise_cons]
      refine ⟨hv.ord.sublist (List.take_sublist _ _), ⟨h2, hv.ord.sublist (List.drop_sublist _ _)⟩, ?_⟩
      intro a ha b hb
      rcases List.mem_cons.1 hb with rfl | hb
      · exact h1 a ha
      · exact lessL_trans (h1 a ha) (h2 b hb)
    · intro y hy
      show RightS s.2 y
      rcases List.mem_append.1 hy with hy | hy
      · exact hv.right y (List.mem_of_mem_take hy)
      · rcases List.mem_cons.1 hy with rfl | hy
        · exact ⟨a1, by show 1 ≤ 200; omega, rfl, a3.2, a4, fun y hy => by rw [List.mem_singleton.1 hy]; exact ⟨a4, Int.le_refl _⟩⟩
        · exact hv.right y (List.mem_of_mem_drop hy)
  · rw [hf]
    simp only []
    obtain ⟨hi, hl⟩ := fnd_some hf
    rw [atS_lt hi] at hlast hlen ⊢
    have hr := hv.right _ (List.getElem_mem hi)
    refine ⟨hv.floor, ?_, ord_of (labs_set hi _ rfl) hv.ord, ?_⟩
    · rw [List.length_set]; exact hv.len
    · intro y hy
      show RightS s.2 y
      rcases List.mem_or_eq_of_mem_set hy with hy | rfl
      · exact hv.right y hy
      · refine ⟨hr.lab, ?_, ?_, a3.2, a4, ?_⟩
        · show (_ ++ [x]).length ≤ 200; rw [List.length_append]; simp; omega
        · exact sorted_snoc hr.sor x (fun y hy => by have := right_mono hr y hy; omega)
        · intro y hy
          rcases List.mem_append.1 hy with hy | hy
          · have := hr.ins y hy; exact ⟨this.1, by show y.1 ≤ x.1; omega⟩
          · rw [List.mem_singleton.1 hy]; exact ⟨a4, Int.le_refl _⟩
theorem delS_lab (o : Op) (x : Ser) : (delS o x).1 = x.1 := by unfold delS; split <;> rfl
theorem delS_last (o : Op) (x : Ser) : (delS o x).2.2 = x.2.2 := by unfold delS; split <;> rfl
theorem delS_sub (o : Op) (x : Ser) : (delS o x).2.1.Sublist x.2.1 := by
  unfold delS; split
  · exact List.filter_sublist
  · exact List.Sublist.refl _
theorem delS_no {o : Op} {x : Ser} (h : hitB o x = false) : delS o x = x := by unfold delS; rw [h]; rfl
theorem labs_del (o : Op) (s : List Ser) : labs (s.map (delS o)) = labs s := by
  unfold labs; rw [List.map_map]; exact List.map_congr_left (fun x _ => delS_lab o x)
theorem right_del {f : Int} {x : Ser} (h : RightS f x) (o : Op) : RightS f (delS o x) := by
  have hs := delS_sub o x
  refine ⟨by rw [delS_lab]; exact h.lab, Nat.le_trans hs.length_le h.len, ?_, by rw [delS_last]; exact h.last, by rw [delS_last]; exact h.floor, fun y hy => by rw [delS_last]; exact h.ins y (hs.subset hy)⟩
  have := h.sor
  rw [sorted_pw] at this ⊢
  exact this.sublist hs
theorem valid_del {s : St} (hv : Valid s) (o : Op) : Valid (s.1.map (delS o), s.2) := by
  refine ⟨hv.floor, by rw [List.length_map]; exact hv.len, ord_of (labs_del o s.1) hv.ord, fun y hy => ?_⟩
  obtain ⟨x, hx, rfl⟩ := List.mem_map.1 hy
  exact right_del (hv.right x hx) o
theorem maxT_I : maxT ≤ maxI := by decide
theorem inside_I {t : Int} {y : Smp} (h : y.1 ≤ maxI) : insideB t maxI y = decide (t ≤ y.1) := by
  unfold insideB; rw [decide_eq_true h, Bool.and_true]
theorem cut_mem {t : Int} {x : Ser} {y : Smp} (h : y ∈ (cutS t x).2.1) : y ∈ x.2.1 ∧ t ≤ y.1 := by
  have := List.mem_filter.1 h
  exact ⟨this.1, ((inside_iff _ _ _).1 this.2).1⟩
theorem valid_from {s : St} (hv : Valid s) {t : Int} (ht : timely t = true) : Valid (fromM s t) := by
  refine ⟨ht, ?_, ?_, ?_⟩
  · show ((s.1.map (cutS t)).filter (staysB t)).length ≤ 20
    have h1 := List.length_filter_le (staysB t) (s.1.map (cutS t))
    rw [List.length_map] at h1
    have := hv.len
    omega
  · show List.Pairwise _ ((s.1.map (cutS t)).filter (staysB t))
    have : (s.1.map (cutS t)).Pairwise (fun x y => lessL x.1 y.1 = true) := ord_of (by unfold labs; rw [List.map_map]; rfl) hv.ord
    exact this.filter _
  · intro y hy
    show RightS t y
    have hy := List.mem_filter.1 hy
    obtain ⟨x, hx, rfl⟩ := List.mem_map.1 hy.1
    have hr := hv.right x hx
    have hf : t ≤ (cutS t x).2.2 := by
      have h2 := hy.2
      unfold staysB at h2
      rw [Bool.or_eq_true] at h2
      rcases h2 with h2 | h2
      · cases hc : (cutS t x).2.1 with
        | nil => rw [hc] at h2; cases h2
        | cons z l =>
          have hz : z ∈ (cutS t x).2.1 := by rw [hc]; exact List.mem_cons_self
          obtain ⟨z1, z2⟩ := cut_mem hz
          have := (hr.ins z z1).2
          show t ≤ x.2.2
          omega
      · exact of_decide_eq_true h2
    refine ⟨hr.lab, Nat.le_trans (List.length_filter_le ..) hr.len, sorted_filter hr.sor _, hr.last, hf, fun z hz => ?_⟩
    obtain ⟨z1, z2⟩ := cut_mem hz
    exact ⟨z2, (hr.ins z z1).2⟩
/-! ### What the changes tell is the state -/
theorem set_mid (pre : List Ser) (x y : Ser) (suf : List Ser) : (pre ++ x :: suf).set pre.length y = pre ++ y :: suf := by
  rw [List.set_append_right _ _ (Nat.le_refl _), Nat.sub_self, List.set_cons_zero]
theorem labs_app (a b : List Ser) : labs (a ++ b) = labs a ++ labs b := List.map_append ..
theorem all_del (o : Op) (f : Int) : ∀ (suf pre : List Ser), (pre ++ suf).Pairwise (fun x y => lessL x.1 y.1 = true) →
    allM (pre ++ suf, f) ((suf.filter (hitB o)).map (delR o)) = ((pre ++ suf.map (delS o), f), ((suf.filter (hitB o)).map (delR o)).length)
  | [], pre, _ => rfl
  | x :: suf, pre, ho => by
    cases hh : hitB o x with
    | false =>
      rw [List.filter_cons_of_neg (by rw [hh]; decide), List.map_cons, delS_no hh]
      have := all_del o f suf (pre ++ [x]) (by rw [List.append_assoc]; exact ho)
      rw [List.append_assoc, List.append_assoc] at this
      exact this
    | true =>
      rw [List.filter_cons_of_pos hh, List.map_cons, List.map_cons, List.length_cons]
      have hi : pre.length < (pre ++ x :: suf).length := by simp
      have hx : (pre ++ x :: suf)[pre.length] = x := by simp
      have hf : fnd (pre ++ x :: suf) x.1 = some pre.length := by have := fnd_at ho hi; rw [hx] at this; exact this
      have hat : atS (pre ++ x :: suf) pre.length = x := by rw [atS_lt hi, hx]
      have hne : ¬ (restS o.t o.te x).length = x.2.1.length := by
        unfold hitB at hh
        rw [Bool.and_eq_true] at hh
        simpa using hh.2
      have hd : delS o x = (x.1, restS o.t o.te x, x.2.2) := by unfold delS; rw [hh]; rfl
      have hap : applyM (pre ++ x :: suf, f) (delR o x) = ((pre ++ delS o x :: suf, f), 0) := by
        unfold applyM delR
        simp only []
        rw [if_neg (by decide), if_pos trivial, hf]
        simp only []
        rw [hat, if_neg hne, set_mid, hd]
      have ih := all_del o f suf (pre ++ [delS o x]) (ord_of (by rw [labs_app, labs_app, labs_app, List.append_assoc]; show labs pre ++ ([(delS o x).1] ++ labs suf) = labs pre ++ (x.1 :: labs suf); rw [delS_lab]; rfl) ho)
      rw [List.append_assoc, List.append_assoc] at ih
      unfold allM
      rw [hap, if_pos rfl]
      simp only []
      have e : pre ++ delS o x :: suf = pre ++ ([delS o x] ++ suf) := rfl
      rw [e, ih]
      rfl
theorem map_del_same {o : Op} {s : List Ser} (h : s.filter (hitB o) = []) : s.map (delS o) = s := by
  rw [List.filter_eq_nil_iff] at h
  conv => rhs; rw [← List.map_id s]
  exact List.map_congr_left (fun x hx => delS_no (by simpa using h x hx))
theorem map_del_ne {o : Op} {s : List Ser} (h : s.filter (hitB o) ≠ []) : s.map (delS o) ≠ s := by
  intro e
  apply h
  rw [List.filter_eq_nil_iff]
  intro x hx hh
  obtain ⟨i, hi, rfl⟩ := List.getElem_of_mem hx
  have h1 : (s.map (delS o))[i]'(by rw [List.length_map]; exact hi) = s[i] := by simp only [e]
  rw [List.getElem_map] at h1
  unfold delS at h1
  rw [if_pos hh] at h1
  have h2 := congrArg (fun x : Ser => x.2.1.length) h1
  simp only [] at h2
  unfold hitB at hh
  rw [Bool.and_eq_true] at hh
  have := hh.2
  simp at this
  exact this h2
theorem put_ne {s : St} (hv : Valid s) {l : List Lab} {x : Smp} {gen : Int} (ha : allowed s l x gen = (0, false)) : putM s l x ≠ s := by
  obtain ⟨a1, a2, a3, a4, a5⟩ := allowed_ok ha
  intro e
  have e := congrArg (·.1) e
  unfold putM at e
  rcases a5 with ⟨hf, hlen⟩ | ⟨i, hf, hlast, hlen⟩
  · rw [hf] at e
    have := congrArg List.length e
    have hp := place_le s.1 l
    simp at this
    omega
  · rw [hf] at e
    simp only [] at e
    obtain ⟨hi, hl⟩ := fnd_some hf
    have h1 : (s.1.set i ((atS s.1 i).1, (atS s.1 i).2.1 ++ [x], x.1))[i]'(by rw [List.length_set]; exact hi) = s.1[i] := by simp only [e]
    rw [List.getElem_set_self, atS_lt hi] at h1
    rw [atS_lt hi] at hlast
    have := congrArg (fun y : Ser => y.2.2) h1
    simp only [] at this
    omega
theorem do_put {s : St} {o : Op} {gen : Int} (hk : o.kd = 0) : doM s o gen = if allowed s o.ls (o.t, o.v) gen = (0, false) then (putM s o.ls (o.t, o.v), (0, 1, []), [(0, o.ls, o.t, 0, o.v)]) else (s, ((allowed s o.ls (o.t, o.v) gen).1, 0, []), []) := by
  unfold doM
  rw [if_pos hk]
  simp only []
  by_cases h : (allowed s o.ls (o.t, o.v) gen).1 ≠ 0 ∨ (allowed s o.ls (o.t, o.v) gen).2 = true
  · rw [if_pos h, if_neg (fun e => by rw [e] at h; simp at h)]
  · rw [if_neg h, if_pos (allowed_two _ _ _ _ h)]
theorem do_del {s : St} {o : Op} {gen : Int} (hk : o.kd = 1) : doM s o gen = (if askedB o = false then (s, (1, 0, []), []) else ((s.1.map (delS o), s.2), (0, (((s.1.filter (hitB o)).map (delN o)).sum : Nat), []), (s.1.filter (hitB o)).map (delR o)) : St × Ans × List Rec) := by
  unfold doM; rw [if_neg (by rw [hk]; decide), if_pos hk]
theorem do_keep {s : St} {o : Op} {gen : Int} (hk : o.kd = 2) : doM s o gen = if timely o.t = false then (s, (1, 0, []), []) else if o.t ≤ s.2 then (s, (0, 0, []), []) else (fromM s o.t, (0, (count s.1 : Int) - (count (fromM s o.t).1 : Int), []), [(2, [], o.t, 0, 0)]) := by
  unfold doM; rw [if_neg (by rw [hk]; decide), if_neg (by rw [hk]; decide), if_pos hk]
theorem do_ask {s : St} {o : Op} {gen : Int} (hk : o.kd = 3) : doM s o gen = if askedB o = false then (s, (1, 0, []), []) else (s, (0, 0, (s.1.filter (askB o)).map (askS o)), []) := by
  unfold doM; rw [if_neg (by rw [hk]; decide), if_neg (by rw [hk]; decide), if_neg (by rw [hk]; decide), if_pos hk]
theorem do_else {s : St} {o : Op} {gen : Int} (h0 : o.kd ≠ 0) (h1 : o.kd ≠ 1) (h2 : o.kd ≠ 2) (h3 : o.kd ≠ 3) : doM s o gen = (s, (1, 0, []), []) := by
  unfold doM; rw [if_neg h0, if_neg h1, if_neg h2, if_neg h3]
/-- What holds of each operation. -/
structure Told (s t : St) (a : Ans) (r : List Rec) : Prop where
  valid : Valid t
  all : allM s r = (t, r.length)
  same : a.1 ≠ 0 ∨ r = [] → t = s
  err : a.1 ≠ 0 → r = []
  more : r ≠ [] → t ≠ s
  floor : s.2 ≤ t.2
theorem told_not {s : St} (hv : Valid s) (a : Ans) : Told s s a [] := ⟨hv, rfl, fun _ => rfl, fun _ => rfl, fun h => absurd rfl h, Int.le_refl _⟩
theorem told {s : St} (hv : Valid s) (o : Op) (gen : Int) : Told s (doM s o gen).1 (doM s o gen).2.1 (doM s o gen).2.2 := by
  by_cases h0 : o.kd = 0
  · rw [do_put h0]
    by_cases ha : allowed s o.ls (o.t, o.v) gen = (0, false)
    · rw [if_pos ha]
      refine ⟨valid_put hv ha, ?_, fun h => ?_, fun h => absurd rfl h, fun _ => put_ne hv ha, ?_⟩
      · have hap : applyM s (0, o.ls, o.t, 0, o.v) = (putM s o.ls (o.t, o.v), 0) := by
          unfold applyM
          simp only []
          rw [if_pos trivial, allowed_3 ha, if_neg (by decide)]
        unfold allM
        rw [hap, if_pos rfl]
        rfl
      · rcases h with h | h
        · exact absurd rfl h
        · cases h
      · show s.2 ≤ (putM s o.ls (o.t, o.v)).2
        unfold putM
        split <;> exact Int.le_refl _
    · rw [if_neg ha]; exact told_not hv _
  by_cases h1 : o.kd = 1
  · rw [do_del h1]
    by_cases ha : askedB o = false
    · rw [if_pos ha]; exact told_not hv _
    · rw [if_neg ha]
      refine ⟨valid_del hv o, ?_, fun h => ?_, fun h => absurd rfl h, fun h e => ?_, Int.le_refl _⟩
      · have := all_del o s.2 s.1 [] hv.ord
        exact this
      · rcases h with h | h
        · exact absurd rfl h
        · have : s.1.filter (hitB o) = [] := List.map_eq_nil_iff.1 h
          show (s.1.map (delS o), s.2) = s
          rw [map_del_same this]
      · have e := congrArg (·.1) e
        exact map_del_ne (fun h2 => h (by rw [h2]; rfl)) e
  by_cases h2 : o.kd = 2
  · rw [do_keep h2]
    by_cases ha : timely o.t = false
    · rw [if_pos ha]; exact told_not hv _
    rw [if_neg ha]
    by_cases hb : o.t ≤ s.2
    · rw [if_pos hb]; exact told_not hv _
    rw [if_neg hb]
    refine ⟨valid_from hv (by simpa using ha), ?_, fun h => ?_, fun h => absurd rfl h, fun _ e => ?_, by show s.2 ≤ o.t; omega⟩
    · have hap : applyM s (2, [], o.t, 0, 0) = (fromM s o.t, 0) := by
        unfold applyM
        simp only []
        rw [if_neg (by decide), if_neg (by decide), if_pos trivial, if_neg (fun h => h.elim ha hb)]
      unfold allM
      rw [hap, if_pos rfl]
      rfl
    · rcases h with h | h
      · exact absurd rfl h
      · cases h
    · have := congrArg (·.2) e
      have : o.t = s.2 := this
      omega
  by_cases h3 : o.kd = 3
  · rw [do_ask h3]
    by_cases ha : askedB o = false
    · rw [if_pos ha]; exact told_not hv _
    · rw [if_neg ha]; exact told_not hv _
  · rw [do_else h0 h1 h2 h3]; exact told_not hv _
end Go.Proofs.Ytdjgndnllaingaa.TrM
