/-
  ALL SERIES: THE PLAIN LAW. What the operations, and the changes, come to.
-/
import Derived.Test.YtdjgndnllaingaaJ09
import Derived.Test.YtdjgndnllaingaaJ11
/-
  ALL SERIES: THE PLAIN LAW. What the operations, and the changes, come to.
-/
namespace Go.Proofs.Ytdjgndnllaingaa.TrM
set_option linter.unusedVariables false
open LabM LbM LabW FrW
abbrev Smp := Int × Int
/-- A series: its labels, its samples, the last time there ever was. -/
abbrev Ser := List Lab × List Smp × Int
/-- All series, and the time ahead of which nothing is kept. -/
abbrev St := List Ser × Int
/-- A change: its kind, labels, a time, another one, a value. -/
abbrev Rec := Int × List Lab × Int × Int × Int
/-- What an operation comes to: its error, how many, series. -/
abbrev Ans := Int × Int × List Ser
/-- An operation: its kind, labels, matchers, times, a value (and a generation, which is not looked at here). -/
structure Op where
  kd : Int
  ls : List Lab
  ms : List Mat
  t : Int
  te : Int
  v : Int
  g : Int
def maxT : Int := 1125899906842624
def maxI : Int := 9223372036854775807
def timely (t : Int) : Bool := decide (0 ≤ t) && decide (t ≤ maxT)
/-- The place of a series. -/
def fnd (s : List Ser) (l : List Lab) : Option Nat := s.findIdx? (fun x => decide (x.1 = l))
def findI (s : List Ser) (l : List Lab) : Int := match fnd s l with
  | none => -1
  | some i => (i : Int)
def atS (s : List Ser) (i : Nat) : Ser := s.getD i ([], [], 0)
/-- Why a sample can't be appended; is it there already? -/
def allowed (s : St) (l : List Lab) (x : Smp) (gen : Int) : Int × Bool :=
  if checkB l = false then (2, false)
  else if limI gen < (longL l : Int) then (3, false)
  else if timely x.1 = false then (1, false)
  else if x.1 < s.2 then (6, false)
  else match fnd s.1 l with
    | none => if 20 ≤ s.1.length then (7, false) else (0, false)
    | some i =>
      if x.1 < (atS s.1 i).2.2 then (4, false)
      else if x.1 = (atS s.1 i).2.2 then (if x ∈ (atS s.1 i).2.1 then (0, true) else (5, false))
      else if 200 ≤ (atS s.1 i).2.1.length then (7, false)
      else (0, false)
def lessL (a b : List Lab) : Bool := ltB (keyL a) (keyL b)
/-- Where a new series goes. -/
def place (s : List Ser) (l : List Lab) : Nat := (s.findIdx? (fun y => !lessL y.1 l)).getD s.length
def putM (s : St) (l : List Lab) (x : Smp) : St := match fnd s.1 l with
  | some i => (s.1.set i ((atS s.1 i).1, (atS s.1 i).2.1 ++ [x], x.1), s.2)
  | none => (s.1.take (place s.1 l) ++ (l, [x], x.1) :: s.1.drop (place s.1 l), s.2)
def cutS (t : Int) (x : Ser) : Ser := (x.1, x.2.1.filter (insideB t maxI), x.2.2)
def staysB (t : Int) (x : Ser) : Bool := !x.2.1.isEmpty || decide (t ≤ x.2.2)
def fromM (s : St) (t : Int) : St := ((s.1.map (cutS t)).filter (staysB t), t)
def restS (f t : Int) (x : Ser) : List Smp := x.2.1.filter (fun y => !insideB f t y)
def applyM (s : St) (r : Rec) : St × Int :=
  if r.1 = 0 then
    (let a := allowed s r.2.1 (r.2.2.1, r.2.2.2.2) 3
     if a.1 ≠ 0 ∨ a.2 = true then (s, 9) else (putM s r.2.1 (r.2.2.1, r.2.2.2.2), 0))
  else if r.1 = 1 then
    match fnd s.1 r.2.1 with
    | none => (s, 9)
    | some i =>
      if (restS r.2.2.1 r.2.2.2.1 (atS s.1 i)).length = (atS s.1 i).2.1.length then (s, 9)
      else ((s.1.set i ((atS s.1 i).1, restS r.2.2.1 r.2.2.2.1 (atS s.1 i), (atS s.1 i).2.2), s.2), 0)
  else if r.1 = 2 then
    (if timely r.2.2.1 = false ∨ r.2.2.1 ≤ s.2 then (s, 9) else (fromM s r.2.2.1, 0))
  else (s, 9)
def allM : St → List Rec → St × Nat
  | s, [] => (s, 0)
  | s, r :: l => if (applyM s r).2 = 0 then ((allM (applyM s r).1 l).1, (allM (applyM s r).1 l).2 + 1) else (s, 0)
def askedB (o : Op) : Bool := checkMB o.ms && decide (o.t ≤ o.te)
/-- Is something of a series deleted? -/
def hitB (o : Op) (x : Ser) : Bool := allB o.ms x.1 && !decide ((restS o.t o.te x).length = x.2.1.length)
def delS (o : Op) (x : Ser) : Ser := if hitB o x = true then (x.1, restS o.t o.te x, x.2.2) else x
def delN (o : Op) (x : Ser) : Nat := x.2.1.length - (restS o.t o.te x).length
def delR (o : Op) (x : Ser) : Rec := (1, x.1, o.t, o.te, 0)
def count (s : List Ser) : Nat := (s.map (fun x => x.2.1.length)).sum
def inS (o : Op) (x : Ser) : List Smp := x.2.1.filter (insideB o.t o.te)
def askB (o : Op) (x : Ser) : Bool := allB o.ms x.1 && !(inS o x).isEmpty
def askS (o : Op) (x : Ser) : Ser := (x.1, inS o x, 0)
def doM (s : St) (o : Op) (gen : Int) : St × Ans × List Rec :=
  if o.kd = 0 then
    (let a := allowed s o.ls (o.t, o.v) gen
     if a.1 ≠ 0 ∨ a.2 = true then (s, (a.1, 0, []), [])
     else (putM s o.ls (o.t, o.v), (0, 1, []), [(0, o.ls, o.t, 0, o.v)]))
  else if o.kd = 1 then
    (if askedB o = false then (s, (1, 0, []), [])
     else ((s.1.map (delS o), s.2), (0, (((s.1.filter (hitB o)).map (delN o)).sum : Nat), []), (s.1.filter (hitB o)).map (delR o)))
  else if o.kd = 2 then
    (if timely o.t = false then (s, (1, 0, []), [])
     else if o.t ≤ s.2 then (s, (0, 0, []), [])
     else (fromM s o.t, (0, (count s.1 : Int) - (count (fromM s o.t).1 : Int), []), [(2, [], o.t, 0, 0)]))
  else if o.kd = 3 then
    (if askedB o = false then (s, (1, 0, []), [])
     else (s, (0, 0, (s.1.filter (askB o)).map (askS o)), []))
  else (s, (1, 0, []), [])
/-! ### What a state is -/
structure RightS (f : Int) (x : Ser) : Prop where
  lab : checkB x.1 = true
  len : x.2.1.length ≤ 200
  sor : sortedL x.2.1 = true
  last : x.2.2 ≤ maxT
  floor : f ≤ x.2.2
  ins : ∀ y ∈ x.2.1, f ≤ y.1 ∧ y.1 ≤ x.2.2
structure Valid (s : St) : Prop where
  floor : timely s.2 = true
  len : s.1.length ≤ 20
  ord : s.1.Pairwise (fun x y => lessL x.1 y.1 = true)
  right : ∀ x ∈ s.1, RightS s.2 x
theorem valid0 : Valid ([], 0) := ⟨by decide, by decide, List.Pairwise.nil, fun x hx => by cases hx⟩
theorem lessL_irrefl (a : List Lab) : lessL a a = false := ltB_irrefl _
theorem lessL_trans {a b c : List Lab} (h1 : lessL a b = true) (h2 : lessL b c = true) : lessL a c = true := ltB_trans h1 h2
theorem timely_iff (t : Int) : timely t = true ↔ 0 ≤ t ∧ t ≤ maxT := by unfold timely; simp
/-- Of two series of a state with the same labels there is one alone. -/
theorem uniq {s : List Ser} (ho : s.Pairwise (fun x y => lessL x.1 y.1 = true)) {i j : Nat} (hi : i < s.length) (hj : j < s.length) (h : s[i].1 = s[j].1) : i = j := by
  rw [List.pairwise_iff_getElem] at ho
  rcases Nat.lt_trichotomy i j with h1 | h1 | h1
  · have := ho i j hi hj h1; rw [h, lessL_irrefl] at this; cases this
  · exact h1
  · have := ho j i hj hi h1; rw [h, lessL_irrefl] at this; cases this
theorem atS_lt {s : List Ser} {i : Nat} (h : i < s.length) : atS s i = s[i] := by unfold atS; simp [h]
theorem fnd_some {s : List Ser} {l : List Lab} {i : Nat} (h : fnd s l = some i) : ∃ hi : i < s.length, s[i].1 = l := by
  unfold fnd at h
  rw [List.findIdx?_eq_some_iff_getElem] at h
  obtain ⟨hi, h1, -⟩ := h
  exact ⟨hi, of_decide_eq_true h1⟩
theorem fnd_at {s : List Ser} (ho : s.Pairwise (fun x y => lessL x.1 y.1 = true)) {i : Nat} (hi : i < s.length) : fnd s s[i].1 = some i := by
  unfold fnd
  rw [List.findIdx?_eq_some_iff_getElem]
  refine ⟨hi, decide_eq_true rfl, fun j hj => ?_⟩
  simp only [decide_eq_true_eq]
  intro e
  have := uniq ho (by omega) hi e
  omega
theorem fnd_none {s : List Ser} {l : List Lab} : fnd s l = none ↔ ∀ x ∈ s, x.1 ≠ l := by
  unfold fnd
  rw [List.findIdx?_eq_none_iff]
  simp
/-! ### The samples -/
theorem sorted_pw : ∀ l : List Smp, sortedL l = true ↔ l.Pairwise (fun x y => x.1 < y.1)
  | [] => by simp [sortedL]
  | [x] => by simp [sortedL]
  | x :: y :: l => by
    have ih := sorted_pw (y :: l)
    unfold sortedL
    rw [Bool.and_eq_true, decide_eq_true_eq, ih, List.pairwise_cons, List.pairwise_cons, List.pairwise_cons]
    constructor
    · rintro ⟨h, h1, h2⟩
      refine ⟨fun z hz => ?_, h1, h2⟩
      rcases List.mem_cons.1 hz with rfl | hz
      · exact h
      · have := h1 z hz; omega
    · rintro ⟨h, h1, h2⟩
      exact ⟨h y List.mem_cons_self, h1, h2⟩
theorem sorted_filter {l : List Smp} (h : sortedL l = true) (p : Smp → Bool) : sortedL (l.filter p) = true := by
  rw [sorted_pw] at h ⊢
  exact h.filter p
theorem sorted_snoc {l : List Smp} (h : sortedL l = true) (x : Smp) (hx : ∀ y ∈ l, y.1 < x.1) : sortedL (l ++ [x]) = true := by
  rw [sorted_pw] at h ⊢
  rw [List.pairwise_append]
  exact ⟨h, List.pairwise_singleton _ _, fun a ha b hb => by rw [List.mem_singleton.1 hb]; exact hx a ha⟩
theorem inside_iff (f t : Int) (x : Smp) : insideB f t x = true ↔ f ≤ x.1 ∧ x.1 ≤ t := by unfold insideB; simp
theorem rest_len (f t : Int) (x : Ser) : (restS f t x).length ≤ x.2.1.length := List.length_filter_le ..
theorem rest_same {f t : Int} {x : Ser} (h : (restS f t x).length = x.2.1.length) : restS f t x = x.2.1 := List.length_filter_eq_length_iff.1 h |> fun h => List.filter_eq_self.2 h
theorem rest_in (f t : Int) (l : List Smp) : (l.filter (fun y => !insideB f t y)).length + (l.filter (insideB f t)).length = l.length := by
  induction l with
  | nil => rfl
  | cons y l ih =>
    rw [List.filter_cons, List.filter_cons]
    cases h : insideB f t y <;> simp <;> omega
/-! ### What is appended -/
theorem allowed_ok {s : St} {l : List Lab} {x : Smp} {gen : Int} (h : allowed s l x gen = (0, false)) :
    checkB l = true ∧ (longL l : Int) ≤ limI gen ∧ timely x.1 = true ∧ s.2 ≤ x.1 ∧ ((fnd s.1 l = none ∧ s.1.length < 20) ∨ ∃ i, fnd s.1 l = some i ∧ (atS s.1 i).2.2 < x.1 ∧ (atS s.1 i).2.1.length < 200) := by
  unfold allowed at h
  split at h
  · cases h
  split at h
  · cases h
  split at h
  · cases h
  split at h
  · cases h
  rename_i h1 h2 h3 h4
  refine ⟨by simpa using h1, by omega, by simpa using h3, by omega, ?_⟩
  cases hf : fnd s.1 l with
  | none =>
    rw [hf] at h
    simp only [] at h
    split at h
    · cases h
    · exact .inl ⟨rfl, by omega⟩
  | some i =>
    rw [hf] at h
    simp only [] at h
    split at h
    · cases h
    split at h
    · split at h <;> cases h
    split at h
    · cases h
    · exact .inr ⟨i, rfl, by omega, by omega⟩
theorem limI_le (g : Int) : limI g ≤ limI 3 := by unfold limI; repeat' split
                                                  all_goals omega
/-- What one generation takes the last one takes. -/
theorem allowed_3 {s : St} {l : List Lab} {x : Smp} {gen : Int} (h : allowed s l x gen = (0, false)) : allowed s l x 3 = (0, false) := by
  have h2 := (allowed_ok h).2.1
  have h3 := limI_le gen
  have e : ∀ g, (longL l : Int) ≤ limI g → allowed s l x g = allowed s l x gen := fun g hg => by
    unfold allowed
    rw [if_neg (show ¬ limI g < (longL l : Int) by omega), if_neg (show ¬ limI gen < (longL l : Int) by omega)]
  rw [e 3 (by omega), h]
theorem allowed_two (s : St) (l : List Lab) (x : Smp) (gen : Int) : ¬ ((allowed s l x gen).1 ≠ 0 ∨ (allowed s l x gen).2 = true) → allowed s l x gen = (0, false) := by
  intro h
  generalize allowed s l x gen = p at h
  obtain ⟨a, b⟩ := p
  simp at h
  rw [h.1, h.2]
theorem lessL_tri {a b : List Lab} (h : lessL a b = false) (hne : keyL a ≠ keyL b) : lessL b a = true := by
  have := ltB_tri (keyL a) (keyL b)
  unfold lessL at h ⊢
  rw [h] at this
  rw [← this]
  simpa using hne
theorem check_fits {l : List Lab} (h : checkB l = true) : fits64 l := fun x hx => by
  have := check_48 h x hx
  simp at this ⊢
  omega
/-- Labels that may be, with one key, are the same. -/
theorem key_same {a b : List Lab} (ha : checkB a = true) (hb : checkB b = true) (h : keyL a = keyL b) : a = b := by
  have h1 := (ofL_iff _ _).2 ⟨ha, rfl⟩
  have h2 := (ofL_iff _ _).2 ⟨hb, h.symm⟩
  rw [h1] at h2
  injection h2
theorem place_le (s : List Ser) (l : List Lab) : place s l ≤ s.length := by
  unfold place
  cases h : s.findIdx? (fun y => !lessL y.1 l) with
  | none => exact Nat.le_refl _
  | some i =>
    rw [List.findIdx?_eq_some_iff_getElem] at h
    exact Nat.le_of_lt h.1
theorem place_ahead {s : List Ser} {l : List Lab} {i : Nat} (hi : i < s.length) (h : i < place s l) : lessL s[i].1 l = true := by
  unfold place at h
  cases hf : s.findIdx? (fun y => !lessL y.1 l) with
  | none =>
    rw [List.findIdx?_eq_none_iff] at hf
    have := hf s[i] (List.getElem_mem hi)
    simpa using this
  | some k =>
    rw [hf] at h
    rw [List.findIdx?_eq_some_iff_getElem] at hf
    obtain ⟨hk, -, h2⟩ := hf
    have := h2 i h
    simpa using this
theorem place_behind {s : List Ser} (ho : s.Pairwise (fun x y => lessL x.1 y.1 = true)) {l : List Lab} {i : Nat} (hi : i < s.length) (h : place s l ≤ i) (hne : keyL s[i].1 ≠ keyL l) : lessL l s[i].1 = true := by
  unfold place at h
  cases hf : s.findIdx? (fun y => !lessL y.1 l) with
  | none => rw [hf] at h; simp at h; omega
  | some k =>
    rw [hf] at h
    simp only [Option.getD_some] at h
    rw [List.findIdx?_eq_some_iff_getElem] at hf
    obtain ⟨hk, h1, -⟩ := hf
    have h1 : lessL s[k].1 l = false := by simpa using h1
    by_cases hki : k = i
    · subst hki; exact lessL_tri h1 hne
    · rw [List.pairwise_iff_getElem] at ho
      have h2 := ho k i hk hi (by omega)
      by_cases hk2 : keyL s[k].1 = keyL l
      · unfold lessL at h2 ⊢; rw [← hk2]; exact h2
      · exact lessL_trans (lessL_tri h1 hk2) h2
end Go.Proofs.Ytdjgndnllaingaa.TrM
