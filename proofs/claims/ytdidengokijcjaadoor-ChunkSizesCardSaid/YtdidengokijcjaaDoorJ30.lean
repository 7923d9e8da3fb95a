/-
  THE PLAIN LAW OF THE STATEMENTS OF CHAPTER 11.
-/
import Derived.Test.YtdidengokijcjaaDoorJ29
/-
  THE PLAIN LAW OF THE STATEMENTS OF CHAPTER 11.
-/
namespace Go.Proofs.YtdidengokijcjaaDoor.ChW
set_option linter.unusedVariables false
open Go.RowKit FrM FrW StM ChM LabW BitsM BitsW
theorem may_parts {g : Int} {l : List Sm} (h : may g l = true) : (1 ≤ g ∧ g ≤ 3) ∧ ChM.sorted l = true ∧ l.length ≤ 200 := by
  unfold may at h
  simp only [Bool.and_eq_true, decide_eq_true_eq] at h
  exact ⟨h.1.1, h.1.2, h.2⟩
theorem may_mk {g : Int} {l : List Sm} (h : 1 ≤ g ∧ g ≤ 3) (h2 : ChM.sorted l = true) (h3 : l.length ≤ 200) : may g l = true := by
  unfold may; rw [decide_eq_true h.1, decide_eq_true h.2, h2, decide_eq_true h3]; rfl
theorem putC_ok {g : Int} {l : List Sm} (h : (putC g l).2 = 0) : may g l = true := by
  cases hm : may g l with
  | true => rfl
  | false => rw [putC_bad hm] at h; cases h
theorem putC_1 {g : Int} {l : List Sm} (h : (putC g l).2 ≠ 0) : (putC g l).1 = [] := by
  cases hm : may g l with
  | true => rw [putC_good hm] at h; exact absurd rfl h
  | false => rw [putC_bad hm]
/-- What is put is got. -/
theorem read_put {g : Int} {l : List Sm} (h : okMs l) (hp : (putC g l).2 = 0) : readC g (putC g l).1 = (l, 0) := by
  have hm := putC_ok hp
  obtain ⟨hg, hs, hn⟩ := may_parts hm
  rw [putC_good hm]
  show readC g (body g l ++ CrcM.ctail (body g l)) = _
  have hl : (body g l ++ CrcM.ctail (body g l)).length - 4 = (body g l).length := by rw [List.length_append, CrcM.ctail_length]; omega
  unfold readC
  rw [hl, List.take_left, List.drop_left, if_neg (by simp [hg.1, hg.2]), if_neg (by rw [List.length_append, CrcM.ctail_length]; simp)]
  rw [get_body g hg l h hn]
  simp only []
  rw [if_neg (by rw [hs]; simp; omega)]
theorem readC_none {g : Int} {s : Txt} (h : (readC g s).2 ≠ 0) : (readC g s).1 = [] := by
  unfold readC at h ⊢
  split
  · rfl
  split
  · rfl
  simp only [] at h ⊢
  split
  · rfl
  · rename_i h1 h2 h3
    rw [if_neg h1, if_neg h2, if_neg h3] at h
    exact absurd rfl h
/-- Nothing else is got. -/
theorem put_read {g : Int} {s : Txt} (h : (readC g s).2 = 0) : putC g (readC g s).1 = (s, 0) ∧ ChM.sorted (readC g s).1 = true := by
  unfold readC at h ⊢
  by_cases h1 : ¬ (1 ≤ g ∧ g ≤ 3)
  · rw [if_pos h1] at h; cases h
  rw [if_neg h1] at h ⊢
  by_cases h2 : s.length < 4 ∨ CrcM.ctail (s.take (s.length - 4)) ≠ s.drop (s.length - 4)
  · rw [if_pos h2] at h; cases h
  rw [if_neg h2] at h ⊢
  simp only [] at h ⊢
  obtain ⟨b, hb⟩ : ∃ b, s.take (s.length - 4) = b := ⟨_, rfl⟩
  rw [hb] at h h2 ⊢
  by_cases h3 : (getC g b).2.2 = true ∨ (getC g b).2.1 ≠ [] ∨ 200 < (getC g b).1.length ∨ ChM.sorted (getC g b).1 = false
  · rw [if_pos h3] at h; cases h
  rw [if_neg h3]
  simp only [not_or, Decidable.not_not, Bool.not_eq_true, Nat.not_lt, Bool.not_eq_false] at h1 h2 h3
  obtain ⟨k1, k2, k3, k4⟩ := h3
  have hget : getC g b = ((getC g b).1, ([], false)) := by
    conv => lhs; rw [← Prod.eta (getC g b), ← Prod.eta (getC g b).2]
    rw [k1, k2]
  obtain ⟨e, -⟩ := get_only g b _ hget k3
  refine ⟨?_, k4⟩
  rw [putC_good (may_mk h1 k4 k3), e, h2.2, ← hb, List.take_append_drop]
theorem read_ok {g : Int} {s : Txt} (h : (readC g s).2 = 0) : (readC g s).1.length ≤ 200 := by
  have h2 := (put_read h).1
  exact (may_parts (putC_ok (by rw [h2]))).2.2
/-- Other samples have other bytes. -/
theorem put_inj {g : Int} {l m : List Sm} (hl : okMs l) (hm : okMs m) (h1 : (putC g l).2 = 0) (h2 : (putC g m).2 = 0) : (putC g l).1 = (putC g m).1 ↔ l = m := by
  constructor
  · intro h
    have e1 := read_put hl h1
    have e2 := read_put hm h2
    rw [h, e2] at e1
    injection e1 with e1
    exact e1.symm
  · rintro rfl; rfl
theorem sizes {g : Int} {l : List Sm} (h : (putC g l).2 = 0) : 5 ≤ (putC g l).1.length ∧ (g = 1 → (putC g l).1.length = 12 + 16 * l.length) ∧ (g = 2 → 5 + 9 * l.length ≤ (putC g l).1.length) := by
  have hm := putC_ok h
  obtain ⟨hg, hs, hn⟩ := may_parts hm
  rw [putC_good hm]
  have ht := CrcM.ctail_length (body g l)
  show 5 ≤ (body g l ++ CrcM.ctail (body g l)).length ∧ (g = 1 → (body g l ++ CrcM.ctail (body g l)).length = _) ∧ (g = 2 → _ ≤ (body g l ++ CrcM.ctail (body g l)).length)
  rw [List.length_append, ht]
  have hp : ∀ n, 1 ≤ (small n).length := fun n => sm_pos 9 n
  rcases (by omega : g = 1 ∨ g = 2 ∨ g = 3) with rfl | rfl | rfl
  · have e : (body 1 l).length = 8 + 16 * l.length := by show (wide l.length ++ wS l).length = _; rw [List.length_append, wide_len, wS_len]
    exact ⟨by omega, fun _ => by omega, fun h => by omega⟩
  · have e : (body 2 l).length = (small l.length).length + (sS 0 l).length := by show (small l.length ++ sS 0 l).length = _; rw [List.length_append]
    have := hp l.length
    have := (sS_len l 0).1
    exact ⟨by omega, fun h => by omega, fun _ => by omega⟩
  · have e : (body 3 l).length = (small l.length).length + (text (tB l) ++ text (vB l)).length := by show (small l.length ++ (text (tB l) ++ text (vB l))).length = _; rw [List.length_append]
    have := hp l.length
    exact ⟨by omega, fun h => by omega, fun h => by omega⟩
/-- The best generation: it may be, and no other one has fewer bytes, nor a later one as few. -/
theorem best {l : List Sm} (h : ChM.sorted l = true ∧ l.length ≤ 200) : (1 ≤ smallestC l ∧ smallestC l ≤ 3) ∧ ∀ g : Int, 1 ≤ g → g ≤ 3 → (putC g l).2 = 0 ∧ (putC (smallestC l) l).1.length ≤ (putC g l).1.length ∧ ((putC g l).1.length = (putC (smallestC l) l).1.length → g ≤ smallestC l) := by
  have hp : ∀ g : Int, 1 ≤ g → g ≤ 3 → (putC g l).2 = 0 := fun g h1 h2 => by rw [putC_good (may_mk ⟨h1, h2⟩ h.1 h.2)]
  have p1 := hp 1 (by omega) (by omega)
  have p2 := hp 2 (by omega) (by omega)
  have p3 := hp 3 (by omega) (by omega)
  have e1 : bstS l 1 = (3, (putC 3 l).1.length) := by
    show stepB l (0, 0) 3 = _
    unfold stepB
    rw [if_pos ⟨p3, .inl rfl⟩]; rfl
  have e2 : bstS l 2 = if (putC 2 l).1.length < (putC 3 l).1.length then (2, (putC 2 l).1.length) else (3, (putC 3 l).1.length) := by
    show stepB l (bstS l 1) 2 = _
    rw [e1]
    unfold stepB
    by_cases hc : (putC 2 l).1.length < (putC 3 l).1.length
    · rw [if_pos hc, if_pos ⟨p2, .inr hc⟩]; rfl
    · rw [if_neg hc, if_neg (fun x => x.2.elim (fun y => by cases y) hc)]
  have e3 : smallestC l = (stepB l (bstS l 2) 1).1 := rfl
  rw [e2] at e3
  by_cases hc : (putC 2 l).1.length < (putC 3 l).1.length
  · rw [if_pos hc] at e3
    by_cases hd : (putC 1 l).1.length < (putC 2 l).1.length
    · have e4 : smallestC l = 1 := by rw [e3]; unfold stepB; rw [if_pos ⟨p1, .inr hd⟩]; rfl
      rw [e4]
      refine ⟨by omega, fun g h1 h2 => ⟨hp g h1 h2, ?_⟩⟩
      rcases (by omega : g = 1 ∨ g = 2 ∨ g = 3) with rfl | rfl | rfl <;> omega
    · have e4 : smallestC l = 2 := by rw [e3]; unfold stepB; rw [if_neg (fun x => x.2.elim (fun y => by cases y) hd)]
      rw [e4]
      refine ⟨by omega, fun g h1 h2 => ⟨hp g h1 h2, ?_⟩⟩
      rcases (by omega : g = 1 ∨ g = 2 ∨ g = 3) with rfl | rfl | rfl <;> omega
  · rw [if_neg hc] at e3
    by_cases hd : (putC 1 l).1.length < (putC 3 l).1.length
    · have e4 : smallestC l = 1 := by rw [e3]; unfold stepB; rw [if_pos ⟨p1, .inr hd⟩]; rfl
      rw [e4]
      refine ⟨by omega, fun g h1 h2 => ⟨hp g h1 h2, ?_⟩⟩
      rcases (by omega : g = 1 ∨ g = 2 ∨ g = 3) with rfl | rfl | rfl <;> omega
    · have e4 : smallestC l = 3 := by rw [e3]; unfold stepB; rw [if_neg (fun x => x.2.elim (fun y => by cases y) hd)]
      rw [e4]
      refine ⟨by omega, fun g h1 h2 => ⟨hp g h1 h2, ?_⟩⟩
      rcases (by omega : g = 1 ∨ g = 2 ∨ g = 3) with rfl | rfl | rfl <;> omega
theorem worst {l : List Sm} (h : ¬ (ChM.sorted l = true ∧ l.length ≤ 200)) : smallestC l = 0 ∧ ∀ g : Int, (putC g l).2 = 1 := by
  have hp : ∀ g : Int, (putC g l).2 = 1 := fun g => by
    rw [putC_bad]
    cases hm : may g l with
    | false => rfl
    | true => exact absurd (may_parts hm).2 h
  refine ⟨?_, hp⟩
  have hs : ∀ b g, stepB l b g = b := fun b g => by unfold stepB; rw [if_neg (fun x => by have := hp g; omega)]
  show (stepB l (stepB l (stepB l (0, 0) 3) 2) 1).1 = 0
  rw [hs, hs, hs]
end Go.Proofs.YtdidengokijcjaaDoor.ChW
