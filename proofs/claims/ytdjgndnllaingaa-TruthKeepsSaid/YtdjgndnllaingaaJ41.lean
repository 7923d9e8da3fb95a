/-
  ALL SERIES: THE PLAIN LAW OF THE SIX STATEMENTS.
-/
import Derived.Test.YtdjgndnllaingaaJ16
/-
  ALL SERIES: THE PLAIN LAW OF THE SIX STATEMENTS.
-/
namespace Go.Proofs.Ytdjgndnllaingaa.TrM
set_option linter.unusedVariables false
open LabM LbM LabW FrW
/-- The state behind the first operations, each done for its own generation. -/
def runM (l : List Op) (g : Nat → Int) : Nat → St
  | 0 => ([], 0)
  | k + 1 => (doM (runM l g k) (l.getD k ⟨9, [], [], 0, 0, 0, 0⟩) (g k)).1
theorem runM_valid (l : List Op) (g : Nat → Int) : ∀ k, Valid (runM l g k)
  | 0 => valid0
  | k + 1 => (told (runM_valid l g k) _ _).valid
theorem runM_floor (l : List Op) (g : Nat → Int) (k : Nat) : (runM l g k).2 ≤ (runM l g (k + 1)).2 := (told (runM_valid l g k) _ _).floor
theorem runM_step (l : List Op) (g : Nat → Int) (k : Nat) (h : k < l.length) : runM l g (k + 1) = (doM (runM l g k) l[k] (g k)).1 := by
  show (doM (runM l g k) (l.getD k ⟨9, [], [], 0, 0, 0, 0⟩) (g k)).1 = _
  rw [show l.getD k ⟨9, [], [], 0, 0, 0, 0⟩ = l[k] by simp [h]]
/-! ### What is asked for -/
theorem nonempty_iff {α : Type} (l : List α) : (!l.isEmpty) = decide (0 < l.length) := by cases l <;> simp
theorem inS_all {s : St} (hv : Valid s) {x : Ser} (hx : x ∈ s.1) (ms : List Mat) (l : List Lab) (v g kd : Int) : inS ⟨kd, l, ms, 0, maxT, v, g⟩ x = x.2.1 := by
  unfold inS
  rw [List.filter_eq_self]
  intro y hy
  have h1 := (hv.right x hx).ins y hy
  have h2 := (hv.right x hx).last
  have h3 := (timely_iff _).1 hv.floor
  rw [inside_iff]
  simp only []
  omega
theorem ask_all {s : St} (hv : Valid s) (ms : List Mat) (gen : Int) (h : checkMB ms = true) : doM s ⟨3, [], ms, 0, maxT, 0, 0⟩ gen = (s, (0, 0, (s.1.filter (fun x => allB ms x.1 && decide (0 < x.2.1.length))).map (fun x => (x.1, x.2.1, 0))), []) := by
  rw [do_ask rfl, if_neg (by unfold askedB; rw [show checkMB (⟨3, [], ms, 0, maxT, 0, 0⟩ : Op).ms = true from h, Bool.true_and]; show ¬ decide ((0 : Int) ≤ maxT) = false; decide)]
  congr 4
  have h1 : s.1.filter (askB ⟨3, [], ms, 0, maxT, 0, 0⟩) = s.1.filter (fun x => allB ms x.1 && decide (0 < x.2.1.length)) := by
    refine List.filter_congr (fun x hx => ?_)
    unfold askB
    rw [inS_all hv hx, nonempty_iff]
  rw [h1]
  refine List.map_congr_left (fun x hx => ?_)
  unfold askS
  rw [inS_all hv (List.mem_filter.1 hx).1]
theorem check_nil : checkMB [] = true := by decide
theorem all_nil (l : List Lab) : allB [] l = true := rfl
/-- Those of the first that fit, and the next one. -/
theorem next_fit {α : Type} (p : α → Bool) (l : List α) (i : Nat) (hi : i < l.length) :
    (p l[i] = true → ∃ h : ((l.take i).filter p).length < (l.filter p).length, (l.filter p)[((l.take i).filter p).length] = l[i]) ∧
      (p l[i] = false → ∀ h : ((l.take i).filter p).length < (l.filter p).length, ∃ j, ∃ hj : j < l.length, i < j ∧ (l.filter p)[((l.take i).filter p).length] = l[j]) := by
  have e : l.filter p = (l.take i).filter p ++ (l[i] :: l.drop (i + 1)).filter p := by
    rw [← List.filter_append, ← List.drop_eq_getElem_cons hi, List.take_append_drop]
  constructor
  · intro h
    rw [List.filter_cons_of_pos h] at e
    refine ⟨by rw [e, List.length_append, List.length_cons]; omega, ?_⟩
    simp only [e]
    rw [List.getElem_append_right (Nat.le_refl _)]
    simp
  · intro h hlt
    rw [List.filter_cons_of_neg (by rw [h]; decide)] at e
    have hm : (l.filter p)[((l.take i).filter p).length] ∈ (l.drop (i + 1)).filter p := by
      simp only [e]
      rw [List.getElem_append_right (Nat.le_refl _)]
      exact List.getElem_mem _
    obtain ⟨j, hj, hjj⟩ := List.getElem_of_mem (List.mem_filter.1 hm).1
    rw [List.length_drop] at hj
    rw [List.getElem_drop] at hjj
    exact ⟨i + 1 + j, by omega, by omega, hjj.symm⟩
theorem fit_take {α : Type} (p : α → Bool) (l : List α) (i : Nat) (hi : i < l.length) : ((l.take (i + 1)).filter p).length = ((l.take i).filter p).length + if p l[i] = true then 1 else 0 := by
  rw [List.take_succ_eq_append_getElem hi, List.filter_append, List.length_append]
  cases h : p l[i] <;> simp [h]
/-! ### What is appended -/
theorem fnd_mem {s : St} (hv : Valid s) {i : Nat} (hi : i < s.1.length) : fnd s.1 s.1[i].1 = some i := fnd_at hv.ord hi
/-- What is taken of a series that is there. -/
theorem rises {s : St} (hv : Valid s) {i : Nat} (hi : i < s.1.length) (t v gen : Int) (ms : List Mat) (te g : Int) :
    ((doM s ⟨0, s.1[i].1, ms, t, te, v, g⟩ gen).2.1.1 = 0 → s.2 ≤ t ∧ s.1[i].2.2 ≤ t) ∧ ((doM s ⟨0, s.1[i].1, ms, t, te, v, g⟩ gen).2.2 ≠ [] → s.2 ≤ t ∧ s.1[i].2.2 < t) := by
  rw [do_put rfl]
  have hf := fnd_mem hv hi
  simp only []
  by_cases ha : allowed s s.1[i].1 (t, v) gen = (0, false)
  · rw [if_pos ha]
    obtain ⟨-, -, -, a4, a5⟩ := allowed_ok ha
    have h5 : s.1[i].2.2 < t := by
      rcases a5 with ⟨h, -⟩ | ⟨j, h, h2, -⟩
      · rw [hf] at h; cases h
      · rw [hf] at h; injection h with h; subst h; rw [atS_lt hi] at h2; exact h2
    have a4 : s.2 ≤ t := a4
    exact ⟨fun _ => ⟨a4, by omega⟩, fun _ => ⟨a4, h5⟩⟩
  · rw [if_neg ha]
    refine ⟨fun h => ?_, fun h => absurd rfl h⟩
    simp only [] at h
    unfold allowed at h
    rw [hf] at h
    simp only [atS_lt hi] at h
    repeat' split at h
    all_goals first | (simp at h; done) | (constructor <;> omega)
/-- A sample that was taken: the state behind it. -/
theorem put_find {s : St} (hv : Valid s) {l : List Lab} {x : Smp} {gen : Int} (ha : allowed s l x gen = (0, false)) :
    ∃ i, fnd (putM s l x).1 l = some i ∧ (atS (putM s l x).1 i).2.2 = x.1 ∧ x ∈ (atS (putM s l x).1 i).2.1 ∧ (putM s l x).2 = s.2 := by
  have hv2 := valid_put hv ha
  obtain ⟨a1, a2, a3, a4, a5⟩ := allowed_ok ha
  have key : ∀ i (hi : i < (putM s l x).1.length), (putM s l x).1[i].1 = l → (putM s l x).1[i].2.2 = x.1 → x ∈ (putM s l x).1[i].2.1 → (putM s l x).2 = s.2 → ∃ i, fnd (putM s l x).1 l = some i ∧ (atS (putM s l x).1 i).2.2 = x.1 ∧ x ∈ (atS (putM s l x).1 i).2.1 ∧ (putM s l x).2 = s.2 := fun i hi h1 h2 h3 h4 => by
    refine ⟨i, ?_, ?_, ?_, h4⟩
    · have := fnd_mem hv2 hi; rw [h1] at this; exact this
    · rw [atS_lt hi]; exact h2
    · rw [atS_lt hi]; exact h3
  rcases a5 with ⟨hf, hlen⟩ | ⟨i, hf, hlast, hlen⟩
  · have e : putM s l x = (s.1.take (place s.1 l) ++ (l, [x], x.1) :: s.1.drop (place s.1 l), s.2) := by unfold putM; rw [hf]
    have hp := place_le s.1 l
    have hlt : place s.1 l < (putM s l x).1.length := by rw [e]; simp; omega
    have hat : (putM s l x).1[place s.1 l] = (l, [x], x.1) := by
      simp only [e]
      rw [List.getElem_append_right (by simp; omega)]
      simp [Nat.min_eq_left hp]
    exact key _ hlt (by rw [hat]) (by rw [hat]) (by rw [hat]; exact List.mem_singleton.2 rfl) (by rw [e])
  · obtain ⟨hi, hl⟩ := fnd_some hf
    have e : putM s l x = (s.1.set i ((atS s.1 i).1, (atS s.1 i).2.1 ++ [x], x.1), s.2) := by unfold putM; rw [hf]
    have hlt : i < (putM s l x).1.length := by rw [e]; simp; exact hi
    have hat : (putM s l x).1[i] = ((atS s.1 i).1, (atS s.1 i).2.1 ++ [x], x.1) := by
      simp only [e]
      rw [List.getElem_set_self]
    exact key _ hlt (by rw [hat, atS_lt hi]; exact hl) (by rw [hat]) (by rw [hat]; exact List.mem_append_right _ (List.mem_singleton.2 rfl)) (by rw [e])
theorem sample_one {l : List Smp} (h : sortedL l = true) {t v u : Int} (h1 : (t, v) ∈ l) (h2 : (t, u) ∈ l) : u = v := by
  rw [sorted_pw] at h
  obtain ⟨i, hi, e1⟩ := List.getElem_of_mem h1
  obtain ⟨j, hj, e2⟩ := List.getElem_of_mem h2
  rw [List.pairwise_iff_getElem] at h
  rcases Nat.lt_trichotomy i j with h3 | h3 | h3
  · have := h i j hi hj h3; rw [e1, e2] at this; simp at this
  · subst h3; rw [e1] at e2; injection e2 with _ e2; exact e2.symm
  · have := h j i hj hi h3; rw [e1, e2] at this; simp at this
/-- A sample that was taken is not taken again. -/
theorem once {s : St} (hv : Valid s) {l : List Lab} {t v : Int} {ms : List Mat} {te g : Int} {gen : Int} (h0 : (doM s ⟨0, l, ms, t, te, v, g⟩ gen).2.1.2.1 ≠ 0) (h3 : gen = 3) :
    let n := (doM s ⟨0, l, ms, t, te, v, g⟩ gen).1
    0 ≤ t ∧ Valid n ∧ doM n ⟨0, l, ms, t, te, v, g⟩ gen = (n, (0, 0, []), []) ∧ (∀ u, u ≠ v → doM n ⟨0, l, ms, t, te, u, g⟩ gen = (n, (5, 0, []), [])) ∧ ∃ e, e ≠ 0 ∧ doM n ⟨0, l, ms, t - 1, te, v, g⟩ gen = (n, (e, 0, []), []) := by
  intro n
  rw [do_put rfl] at h0
  simp only [] at h0
  by_cases ha : allowed s l (t, v) gen = (0, false)
  · have hn : n = putM s l (t, v) := by show (doM s ⟨0, l, ms, t, te, v, g⟩ gen).1 = _; rw [do_put rfl]; simp only []; rw [if_pos ha]
    have hvn : Valid n := by rw [hn]; exact valid_put hv ha
    obtain ⟨a1, a2, a3, a4, a5⟩ := allowed_ok ha
    obtain ⟨i, hf, hlast, hmem, hfl⟩ := put_find hv ha
    rw [← hn] at hf hlast hmem hfl
    have a3' := (timely_iff _).1 a3
    simp only [] at a3' a4 hlast hmem
    obtain ⟨hi, hl⟩ := fnd_some hf
    have hsor := (hvn.right _ (List.getElem_mem hi)).sor
    rw [← atS_lt hi] at hsor
    have hin : ∀ u : Int, u ≠ v → (t, u) ∉ (atS n.1 i).2.1 := fun u hu hm => hu (sample_one hsor hmem hm)
    refine ⟨a3'.1, hvn, ?_, fun u hu => ?_, ?_⟩
    · rw [do_put rfl]
      have : allowed n l (t, v) gen = (0, true) := by
        unfold allowed
        simp only []
        rw [a1, if_neg (by decide), if_neg (by omega), a3, if_neg (by decide), if_neg (by rw [hfl]; omega), hf]
        simp only [hlast]
        rw [if_neg (by omega), if_pos trivial, if_pos hmem]
      simp only [this]
      rw [if_neg (by decide)]
    · rw [do_put rfl]
      have : allowed n l (t, u) gen = (5, false) := by
        unfold allowed
        simp only []
        rw [a1, if_neg (by decide), if_neg (by omega), a3, if_neg (by decide), if_neg (by rw [hfl]; omega), hf]
        simp only [hlast]
        rw [if_neg (by omega), if_pos trivial, if_neg (hin u hu)]
      simp only [this]
      rw [if_neg (by decide)]
    · have hne : (allowed n l (t - 1, v) gen).1 ≠ 0 := by
        unfold allowed
        simp only []
        rw [a1, if_neg (by decide), if_neg (by omega), hf]
        simp only [hlast]
        by_cases h4 : timely (t - 1) = false
        · rw [if_pos h4]; decide
        · rw [if_neg h4]
          by_cases h5 : t - 1 < n.2
          · rw [if_pos h5]; decide
          · rw [if_neg h5, if_pos (by omega)]; decide
      refine ⟨(allowed n l (t - 1, v) gen).1, hne, ?_⟩
      rw [do_put rfl]
      simp only []
      rw [if_neg (fun e => hne (by rw [e]))]
  · rw [if_neg ha] at h0
    exact absurd rfl h0
/-! ### What is deleted -/
theorem rest_none {f t : Int} {x : Ser} : (restS f t x).filter (fun y => !insideB f t y) = restS f t x := by
  unfold restS; rw [List.filter_filter]; simp
theorem rest_in0 {f t : Int} {x : Ser} : (restS f t x).filter (insideB f t) = [] := by
  unfold restS; rw [List.filter_eq_nil_iff]; intro y hy h; have := (List.mem_filter.1 hy).2; rw [h] at this; cases this
theorem hit_ask (o : Op) (p : Op) (hm : p.ms = o.ms) (ht : p.t = o.t) (he : p.te = o.te) (x : Ser) : hitB o x = askB p x := by
  unfold hitB askB inS
  rw [hm, ht, he]
  have := rest_in o.t o.te x.2.1
  unfold restS
  congr 1
  generalize (x.2.1.filter (fun y => !insideB o.t o.te y)).length = m at *
  cases hi : x.2.1.filter (insideB o.t o.te) with
  | nil => rw [hi] at this; have : m = x.2.1.length := by simpa using this
           rw [decide_eq_true this]; rfl
  | cons y l => rw [hi] at this; have : m ≠ x.2.1.length := by simp only [List.length_cons] at this; omega
                rw [decide_eq_false this]; rfl
theorem del_hit (o : Op) (x : Ser) : hitB o (delS o x) = false := by
  unfold delS
  split
  · unfold hitB restS
    simp [List.filter_filter]
  · rename_i h; simpa using h
theorem gone {s : St} (m : List Mat) (f t gen : Int) :
    let d : Op := ⟨1, [], m, f, t, 0, 0⟩
    let a : Op := ⟨3, [], m, f, t, 0, 0⟩
    let n := (doM s d gen).1
    (doM s d gen).2.1.1 = (doM s a gen).2.1.1 ∧ ((doM s d gen).2.1.1 = 0 → (doM s d gen).2.1.2.1 = ((((doM s a gen).2.1.2.2).map (fun x => x.2.1.length)).sum : Nat) ∧ (doM s d gen).2.2.length = (doM s a gen).2.1.2.2.length ∧ doM n d gen = (n, (0, 0, []), []) ∧ (doM n a gen).2.1.2.2 = [] ∧ n.1.length = s.1.length) := by
  intro d a n
  have hn : n = (doM s d gen).1 := rfl
  clear_value n
  rw [do_del (o := d) rfl, do_ask (o := a) rfl, do_del (o := d) rfl, do_ask (o := a) rfl] at *
  have hask : askedB a = askedB d := rfl
  rw [hask]
  by_cases ha : askedB d = false
  · rw [if_pos ha, if_pos ha]
    exact ⟨rfl, fun h => absurd (show (1 : Int) = 0 from h) (by decide)⟩
  · rw [if_neg ha, if_neg ha, if_neg ha, if_neg ha]
    rw [if_neg ha] at hn
    simp only [] at hn ⊢
    subst hn
    have hfe : s.1.filter (hitB d) = s.1.filter (askB a) := List.filter_congr (fun x _ => hit_ask d a rfl rfl rfl x)
    have h1 : (s.1.map (delS d)).filter (hitB d) = [] := by
      rw [List.filter_eq_nil_iff]
      intro y hy
      obtain ⟨x, -, rfl⟩ := List.mem_map.1 hy
      rw [del_hit]; decide
    have h2 : (s.1.map (delS d)).filter (askB a) = [] := by
      rw [← h1]; exact List.filter_congr (fun x _ => (hit_ask d a rfl rfl rfl x).symm)
    refine ⟨trivial, fun _ => ⟨?_, ?_, ?_, ?_, ?_⟩⟩
    · rw [hfe, List.map_map]
      congr 2
      refine List.map_congr_left (fun x _ => ?_)
      unfold delN restS
      show _ = (inS a x).length
      have := rest_in f t x.2.1
      show x.2.1.length - (x.2.1.filter (fun y => !insideB f t y)).length = (x.2.1.filter (insideB f t)).length
      omega
    · rw [hfe]; simp
    · rw [h1, map_del_same h1]; rfl
    · rw [h2]; rfl
    · rw [List.length_map]
/-! ### What is kept -/
theorem ask_plain (s : St) (f t gen : Int) : doM s ⟨3, [], [], f, t, 0, 0⟩ gen = if decide (f ≤ t) = false then (s, (1, 0, []), []) else (s, (0, 0, (s.1.filter (fun x => !(x.2.1.filter (insideB f t)).isEmpty)).map (fun x => (x.1, x.2.1.filter (insideB f t), 0))), []) := by
  rw [do_ask rfl]
  have : askedB ⟨3, [], [], f, t, 0, 0⟩ = decide (f ≤ t) := by unfold askedB; rw [show checkMB (⟨3, [], [], f, t, 0, 0⟩ : Op).ms = true from check_nil, Bool.true_and]
  rw [this]
  rfl
theorem keeps {s : St} (hv : Valid s) {t gen : Int} (x : List Lab) (h0 : (doM s ⟨2, [], [], t, 0, 0, 0⟩ gen).2.1.1 = 0) (ht : t ≠ 0) :
    let n := (doM s ⟨2, [], [], t, 0, 0, 0⟩ gen).1
    1 ≤ t ∧ Valid n ∧ t ≤ n.2 ∧ (doM n ⟨3, [], [], 0, t - 1, 0, 0⟩ gen).2.1.2.2 = [] ∧ (doM s ⟨3, [], [], t, maxT, 0, 0⟩ gen).2.1 = (doM n ⟨3, [], [], t, maxT, 0, 0⟩ gen).2.1 ∧ (∃ e, e ≠ 0 ∧ doM n ⟨0, x, [], t - 1, 0, 0, 0⟩ gen = (n, (e, 0, []), [])) := by
  intro n
  have hn : n = (doM s ⟨2, [], [], t, 0, 0, 0⟩ gen).1 := rfl
  have hvn : Valid n := (told hv _ _).valid
  have hin : ∀ {s : St}, Valid s → ∀ y ∈ s.1, ∀ z ∈ y.2.1, s.2 ≤ z.1 ∧ z.1 ≤ maxT := fun hv y hy z hz => by
    have h1 := (hv.right y hy).ins z hz
    have h2 := (hv.right y hy).last
    omega
  rw [do_keep rfl] at h0 hn
  simp only [] at h0 hn
  by_cases h1 : timely t = false
  · rw [if_pos h1] at h0; exact absurd (show (1 : Int) = 0 from h0) (by decide)
  · rw [if_neg h1] at hn
    have h1' : timely t = true := by simpa using h1
    have h1' := (timely_iff _).1 h1'
    have hfl : t ≤ n.2 := by
      by_cases h2 : t ≤ s.2
      · rw [if_pos h2] at hn; rw [hn]; exact h2
      · rw [if_neg h2] at hn; rw [hn]; exact Int.le_refl _
    refine ⟨by omega, hvn, hfl, ?_, ?_, ?_⟩
    · rw [ask_plain, if_neg (by simp; omega)]
      show List.map _ _ = []
      rw [List.map_eq_nil_iff, List.filter_eq_nil_iff]
      intro y hy h
      rw [nonempty_iff] at h
      have h := of_decide_eq_true h
      obtain ⟨z, hz⟩ := List.exists_mem_of_length_pos h
      obtain ⟨z1, z2⟩ := List.mem_filter.1 hz
      have := hin hvn y hy z z1
      have := (inside_iff _ _ _).1 z2
      omega
    · rw [ask_plain, ask_plain, if_neg (by simp; omega), if_neg (by simp; omega)]
      show ((0 : Int), (0 : Int), _) = (0, 0, _)
      congr 2
      by_cases h2 : t ≤ s.2
      · rw [if_pos h2] at hn; rw [hn]
      · rw [if_neg h2] at hn
        rw [hn]
        show _ = List.map _ (((s.1.map (cutS t)).filter (staysB t)).filter _)
        have hcut : ∀ y ∈ s.1, (cutS t y).2.1.filter (insideB t maxT) = y.2.1.filter (insideB t maxT) := by
          intro y hy
          unfold cutS
          simp only [List.filter_filter]
          refine List.filter_congr (fun z hz => ?_)
          have := hin hv y hy z hz
          have hI := maxT_I
          rw [inside_I (by omega)]
          unfold insideB
          cases decide (t ≤ z.1) <;> simp
        rw [List.filter_filter, List.filter_map, List.map_map]
        have e1 : s.1.filter ((fun a => !(a.2.1.filter (insideB t maxT)).isEmpty && staysB t a) ∘ cutS t) = s.1.filter (fun x => !(x.2.1.filter (insideB t maxT)).isEmpty) := by
          refine List.filter_congr (fun y hy => ?_)
          show (!((cutS t y).2.1.filter (insideB t maxT)).isEmpty && staysB t (cutS t y)) = _
          rw [hcut y hy]
          cases h3 : y.2.1.filter (insideB t maxT) with
          | nil => rfl
          | cons z r =>
            have hz : z ∈ (cutS t y).2.1 := by
              have : z ∈ (cutS t y).2.1.filter (insideB t maxT) := by rw [hcut y hy, h3]; exact List.mem_cons_self
              exact (List.mem_filter.1 this).1
            unfold staysB
            cases h4 : (cutS t y).2.1 with
            | nil => rw [h4] at hz; cases hz
            | cons a b => rfl
        rw [e1]
        refine List.map_congr_left (fun y hy => ?_)
        show _ = ((cutS t y).1, (cutS t y).2.1.filter (insideB t maxT), 0)
        rw [hcut y (List.mem_filter.1 hy).1]
        rfl
    · have hne : (allowed n x (t - 1, 0) gen).1 ≠ 0 := by
        unfold allowed
        simp only []
        split
        · decide
        split
        · decide
        split
        · decide
        rw [if_pos (by omega)]
        decide
      refine ⟨(allowed n x (t - 1, 0) gen).1, hne, ?_⟩
      rw [do_put rfl]
      simp only []
      rw [if_neg (fun e => hne (by rw [e]))]
end Go.Proofs.Ytdjgndnllaingaa.TrM
