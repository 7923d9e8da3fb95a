/-
  LABELS AS BYTES, AND AS THEY ARE SHOWN: THE PLAIN LAW.
  strings.Builder: copyCheck, WriteString, WriteByte, String: WHAT A BUILDER OF THE CALL'S OWN HOLDS.
  label.Get, alluviumref06.Get: THE WALKS.
  label.masks, label.all, label.Check: THE WALKS.
  label.Check: THE WALK.
  match.pick AT LABELS, MATCHERS, SAMPLES: by whatever function value tells.
  strings.HasPrefix, match.Fits: THE WALKS.
  match.All, alluviumref07.Fits, alluviumref07.All: THE WALKS.
  match.right, match.Check: THE WALKS.
  alluviumref06.Name, Value, Ahead: THE WALKS.
  alluviumref07.Right, AllRight, All: THE WALKS.
-/
import Derived.Test.YtdidengokijcjaaDoorJ01
import Derived.Test.YtdidengokijcjaaDoorJ11
import Derived.Test.YtdidengokijcjaaDoorJ07
import Derived.WalkKit
import Derived.Laws.Externs
import Derived.Test.YtdidengokijcjaaDoorRows
import Derived.Shelf.Abstract
import Derived.StillTailTactics
import Derived.Deep.QuietTactic
import Derived.BigQuiet
import Derived.Outline
import Derived.WalkSpells
import Derived.WalkLawsBesides
import Derived.Handy
import Derived.Deep.DeepCutAuto
import Derived.Laws.BitsAllLaws
import Derived.WalkMore
import Derived.Deep.LoopGhost
import Derived.Maps.AppendAt
/-
  LABELS AS BYTES, AND AS THEY ARE SHOWN: THE PLAIN LAW.
-/
namespace Go.Proofs.YtdidengokijcjaaDoor.LbM
set_option linter.unusedVariables false
open FrM LabM
/-- Bytes as a string. -/
def tx (l : Txt) : ByteArray := ⟨l.toArray⟩
theorem tx_list (l : Txt) : (tx l).data.toList = l := rfl
theorem tx_of (s : ByteArray) : tx s.data.toList = s := rfl
theorem lab_eq (x : Lab) : (tx x.1.data.toList, tx x.2.data.toList) = x := rfl
/-- The labels as bytes. -/
def keyL : List Lab → Txt
  | [] => []
  | x :: l => text x.1.data.toList ++ (text x.2.data.toList ++ keyL l)
/-- A text that bytes begin with, and what is behind it. -/
def getT (s : Txt) : Option (Txt × Txt) := match gs 0 0 s with
  | none => none
  | some (n, k) => if s.length - k < n ∨ 48 < n then none else some ((s.drop k).take n, s.drop (k + n))
/-- The pairs that bytes are. -/
def pairs : Nat → Txt → Option (List Lab)
  | 0, _ => some []
  | f + 1, s => if s = [] then some [] else match getT s with
    | none => none
    | some (n, s1) => match getT s1 with
      | none => none
      | some (v, s2) => (pairs f s2).map ((tx n, tx v) :: ·)
theorem getT_put (b r : Txt) (h : b.length ≤ 48) : getT (text b ++ r) = some (b, r) := by
  unfold getT text
  rw [List.append_assoc, gs_small _ _ (by omega)]
  have e1 : (small b.length ++ (b ++ r)).drop (small b.length).length = b ++ r := List.drop_left
  have e2 : (small b.length ++ (b ++ r)).drop ((small b.length).length + b.length) = r := by
    rw [← List.drop_drop, e1, List.drop_left]
  have e3 : (small b.length ++ (b ++ r)).length - (small b.length).length = b.length + r.length := by simp
  simp only [e1, e2, e3]
  rw [if_neg (by omega), List.take_left]
theorem getT_is {s b r : Txt} (h : getT s = some (b, r)) : s = text b ++ r ∧ b.length ≤ 48 := by
  unfold getT at h
  cases hg : gs 0 0 s with
  | none => rw [hg] at h; cases h
  | some p =>
    obtain ⟨n, k⟩ := p
    rw [hg] at h
    simp only [] at h
    obtain ⟨h1, h2, h3⟩ := gs_is hg
    split at h
    · cases h
    · rename_i hc
      injection h with h
      injection h with ha hb
      have hl : ((s.drop k).take n).length = n := by rw [List.length_take, List.length_drop]; omega
      refine ⟨?_, by rw [← ha, hl]; omega⟩
      unfold text
      rw [← ha, hl, ← hb, List.append_assoc, ← List.drop_drop, List.take_append_drop]
      exact h3
theorem text_inj {a b r q : Txt} (ha : a.length < 18446744073709551616) (hb : b.length < 18446744073709551616) (h : text a ++ r = text b ++ q) : a = b ∧ r = q := by
  unfold text at h
  rw [List.append_assoc, List.append_assoc] at h
  have h1 := gs_small a.length (a ++ r) ha
  have h2 := gs_small b.length (b ++ q) hb
  rw [h, h2] at h1
  injection h1 with h1
  injection h1 with h1 h3
  rw [h1] at h
  have h := List.append_cancel_left h
  exact List.append_inj h h1.symm
def small48 (l : List Lab) : Prop := ∀ x ∈ l, x.1.data.toList.length ≤ 48 ∧ x.2.data.toList.length ≤ 48
def fits64 (l : List Lab) : Prop := ∀ x ∈ l, x.1.data.toList.length < 18446744073709551616 ∧ x.2.data.toList.length < 18446744073709551616
theorem key_inj : ∀ (a b : List Lab), fits64 a → fits64 b → a.length = b.length → keyL a = keyL b → a = b
  | [], [], _, _, _, _ => rfl
  | [], _ :: _, _, _, h, _ => by simp at h
  | _ :: _, [], _, _, h, _ => by simp at h
  | x :: a, y :: b, ha, hb, hl, h => by
    have hx := ha x List.mem_cons_self
    have hy := hb y List.mem_cons_self
    have h1 := text_inj hx.1 hy.1 h
    have h2 := text_inj hx.2 hy.2 h1.2
    have h3 := key_inj a b (fun z hz => ha z (List.mem_cons_of_mem _ hz)) (fun z hz => hb z (List.mem_cons_of_mem _ hz)) (by simpa using hl) h2.2
    have e1 : x.1 = y.1 := congrArg tx h1.1
    have e2 : x.2 = y.2 := congrArg tx h2.1
    rw [h3, show x = y from Prod.ext e1 e2]
theorem text_ne (b r : Txt) : text b ++ r ≠ [] := by
  intro h
  have := congrArg List.length h
  simp only [text, List.length_append, List.length_nil] at this
  have h2 := sm_pos 9 b.length
  unfold small at this
  omega
theorem pairs_key : ∀ (f : Nat) (l : List Lab), small48 l → l.length < f → pairs f (keyL l) = some l
  | 0, _, _, h => by omega
  | f + 1, [], _, _ => rfl
  | f + 1, x :: l, hs, h => by
    have hx := hs x List.mem_cons_self
    unfold pairs keyL
    rw [if_neg (text_ne _ _), getT_put _ _ hx.1]
    simp only []
    rw [getT_put _ _ hx.2]
    simp only []
    rw [pairs_key f l (fun z hz => hs z (List.mem_cons_of_mem _ hz)) (by simpa using h)]
    rfl
theorem pairs_is : ∀ (f : Nat) (s : Txt) (l : List Lab), s.length < f → pairs f s = some l → keyL l = s
  | 0, _, _, h, _ => by omega
  | f + 1, s, l, h, hp => by
    unfold pairs at hp
    split at hp
    · rename_i hs; injection hp with hp; rw [← hp, hs]; rfl
    · cases h1 : getT s with
      | none => rw [h1] at hp; cases hp
      | some p =>
        obtain ⟨n, s1⟩ := p
        rw [h1] at hp; simp only [] at hp
        obtain ⟨g1, g2⟩ := getT_is h1
        cases h2 : getT s1 with
        | none => rw [h2] at hp; cases hp
        | some q =>
          obtain ⟨v, s2⟩ := q
          rw [h2] at hp; simp only [] at hp
          obtain ⟨g3, g4⟩ := getT_is h2
          cases h3 : pairs f s2 with
          | none => rw [h3] at hp; cases hp
          | some m =>
            rw [h3] at hp
            injection hp with hp
            have hlen : s2.length < f := by
              have e1 := congrArg List.length g1
              have e2 := congrArg List.length g3
              have e3 := sm_pos 9 n.length
              simp [text, small] at e1 e2
              omega
            have ih := pairs_is f s2 m hlen h3
            rw [← hp, g1, g3, ← ih]
            rfl
theorem chk_right : ∀ (l : List Lab) (last : Txt), chkL last l = true → ∀ x ∈ l, nameB x.1.data.toList = true ∧ valueB x.2.data.toList = true
  | [], _, _ => fun x hx => by cases hx
  | y :: l, last, h => by
    unfold chkL at h
    simp only [Bool.and_eq_true] at h
    intro x hx
    rcases List.mem_cons.1 hx with rfl | hx
    · exact ⟨h.1.1.2, h.1.2⟩
    · exact chk_right l _ h.2 x hx
theorem check_right {l : List Lab} (h : checkB l = true) : ∀ x ∈ l, nameB x.1.data.toList = true ∧ valueB x.2.data.toList = true := by
  unfold checkB at h
  simp only [Bool.and_eq_true] at h
  exact chk_right l [] h.1.1
theorem check_len {l : List Lab} (h : checkB l = true) : 1 ≤ l.length ∧ l.length ≤ 6 := by
  unfold checkB at h
  simp only [Bool.and_eq_true, decide_eq_true_eq] at h
  refine ⟨?_, h.2⟩
  cases l with
  | nil => simp at h
  | cons x l => simp
theorem name_48 {s : Txt} (h : nameB s = true) : 1 ≤ s.length ∧ s.length ≤ 48 := by
  unfold nameB at h
  simp only [Bool.and_eq_true, decide_eq_true_eq] at h
  refine ⟨?_, h.1.2⟩
  cases s with
  | nil => simp at h
  | cons x l => simp
theorem value_48 {s : Txt} (h : valueB s = true) : 1 ≤ s.length ∧ s.length ≤ 48 := by
  unfold valueB at h
  simp only [Bool.and_eq_true, decide_eq_true_eq] at h
  refine ⟨?_, h.2⟩
  cases s with
  | nil => simp at h
  | cons x l => simp
theorem check_48 {l : List Lab} (h : checkB l = true) : small48 l := fun x hx => ⟨(name_48 (check_right h x hx).1).2, (value_48 (check_right h x hx).2).2⟩
/-- The labels that bytes are, as a key. -/
def ofL (s : Txt) : Option (List Lab) := match pairs (s.length + 1) s with
  | none => none
  | some l => if checkB l = true then some l else none
theorem key_len : ∀ (l : List Lab), l.length ≤ (keyL l).length
  | [] => Nat.le_refl _
  | x :: l => by
    have := key_len l
    have h2 := sm_pos 9 x.1.data.toList.length
    unfold keyL text small
    rw [List.length_append, List.length_append, List.length_append, List.length_append, List.length_cons]
    omega
theorem ofL_iff (s : Txt) (l : List Lab) : ofL s = some l ↔ checkB l = true ∧ keyL l = s := by
  constructor
  · intro h
    unfold ofL at h
    cases hp : pairs (s.length + 1) s with
    | none => rw [hp] at h; cases h
    | some m =>
      rw [hp] at h
      simp only [] at h
      split at h
      · rename_i hc
        injection h with h
        subst h
        exact ⟨hc, pairs_is _ _ _ (Nat.lt_succ_self _) hp⟩
      · cases h
  · rintro ⟨h1, h2⟩
    subst h2
    unfold ofL
    rw [pairs_key _ _ (check_48 h1) (by have := key_len l; omega)]
    simp only []
    rw [if_pos h1]
/-! ### As they are shown -/
def esc (v : Txt) : Txt := v.flatMap fun c => if c = 34 ∨ c = 92 then [92, c] else [c]
def one (x : Lab) : Txt := x.1.data.toList ++ (61 :: 34 :: (esc x.2.data.toList ++ [34]))
def shG : Nat → List Lab → Txt
  | _, [] => []
  | i, x :: l => (if 0 < i then [44] else []) ++ (one x ++ shG (i + 1) l)
def showL (l : List Lab) : Txt := 123 :: (shG 0 l ++ [125])
/-- A word up to a byte that ends it, and what is behind that. -/
def wd (e : UInt8) : Txt → Option (Txt × Txt)
  | [] => none
  | [c] => if c = e then some ([], []) else none
  | c :: d :: r => if c = e then some ([], d :: r) else if c = 92 then (wd e r).map fun p => (d :: p.1, p.2) else (wd e (d :: r)).map fun p => (c :: p.1, p.2)
/-- What is ahead of a byte, and what is behind it. -/
def ct (e : UInt8) : Txt → Option (Txt × Txt)
  | [] => none
  | c :: r => if c = e then some ([], r) else (ct e r).map fun p => (c :: p.1, p.2)
def labRd : Nat → Txt → Option (List Lab)
  | 0, _ => some []
  | f + 1, s => if s.length ≤ 1 then some [] else match ct 61 (s.drop 1) with
    | none => none
    | some (n, v) => match wd 34 (v.drop 1) with
      | none => none
      | some (x, b) => (labRd f b).map ((tx n, tx x) :: ·)
def refRd : Nat → Txt → Option (List Lab)
  | 0, _ => some []
  | f + 1, s => if s.length ≤ 1 then some [] else match wd 61 s with
    | none => none
    | some (n, a) => if a = [] then none else match wd 34 (a.drop 1) with
      | none => none
      | some (x, b) => if b = [] then none else (refRd f (b.drop 1)).map ((tx n, tx x) :: ·)
theorem wd_cons (e c : UInt8) (r : Txt) (h1 : c ≠ e) (h2 : c ≠ 92) : wd e (c :: r) = (wd e r).map fun p => (c :: p.1, p.2) := by
  cases r with
  | nil => simp [wd, h1]
  | cons d r => rw [wd, if_neg h1, if_neg h2]
theorem wd_end (e : UInt8) (r : Txt) : wd e (e :: r) = some ([], r) := by
  cases r with
  | nil => simp [wd]
  | cons d r => simp [wd]
theorem wd_back (e d : UInt8) (r : Txt) (h : (92 : UInt8) ≠ e) : wd e (92 :: d :: r) = (wd e r).map fun p => (d :: p.1, p.2) := by
  rw [wd, if_neg h, if_pos rfl]
theorem wd_esc (v r : Txt) : wd 34 (esc v ++ 34 :: r) = some (v, r) := by
  induction v with
  | nil => exact wd_end 34 r
  | cons c v ih =>
    have e : esc (c :: v) = (if c = 34 ∨ c = 92 then [92, c] else [c]) ++ esc v := by simp [esc]
    rw [e]
    by_cases h : c = 34 ∨ c = 92
    · rw [if_pos h]
      show wd 34 (92 :: c :: (esc v ++ 34 :: r)) = _
      rw [wd_back 34 c _ (by decide), ih]; rfl
    · rw [if_neg h]
      show wd 34 (c :: (esc v ++ 34 :: r)) = _
      rw [wd_cons 34 c _ (fun e => h (.inl e)) (fun e => h (.inr e)), ih]; rfl
def nmOk (s : Txt) : Prop := ∀ c ∈ s, c ≠ 61 ∧ c ≠ 92
theorem wd_name (n r : Txt) (h : nmOk n) : wd 61 (n ++ 61 :: r) = some (n, r) := by
  induction n with
  | nil => exact wd_end 61 r
  | cons c n ih =>
    have hc := h c List.mem_cons_self
    rw [List.cons_append, wd_cons 61 c _ hc.1 hc.2, ih (fun d hd => h d (List.mem_cons_of_mem _ hd))]; rfl
theorem ct_name (n r : Txt) (h : nmOk n) : ct 61 (n ++ 61 :: r) = some (n, r) := by
  induction n with
  | nil => simp [ct]
  | cons c n ih =>
    have hc := h c List.mem_cons_self
    rw [List.cons_append, ct, if_neg hc.1, ih (fun d hd => h d (List.mem_cons_of_mem _ hd))]; rfl
theorem nm_byte : ∀ c : Fin 256, ((decide (97 ≤ c.val) && decide (c.val ≤ 122) || decide (c.val = 95)) || (decide (48 ≤ c.val) && decide (c.val ≤ 57))) = true → c.val ≠ 61 ∧ c.val ≠ 92 := by decide +kernel
theorem name_ok {s : Txt} (h : nameB s = true) : nmOk s := by
  unfold nameB at h
  simp only [Bool.and_eq_true, List.all_eq_true] at h
  intro c hc
  have h1 := h.1.1.1 c hc
  have h2 := nm_byte ⟨c.toNat, c.toNat_lt⟩ h1
  exact ⟨fun e => h2.1 (by rw [e]; rfl), fun e => h2.2 (by rw [e]; rfl)⟩
def namesOk (l : List Lab) : Prop := ∀ x ∈ l, nmOk x.1.data.toList
theorem one_app (x : Lab) (r : Txt) : one x ++ r = x.1.data.toList ++ 61 :: (34 :: (esc x.2.data.toList ++ 34 :: r)) := by simp [one]
theorem labRd_show : ∀ (f i : Nat) (c : UInt8) (l : List Lab), namesOk l → l.length ≤ f → 0 < i → labRd f (shG i l ++ [125]) = some l
  | 0, i, c, [], _, _, _ => rfl
  | 0, i, c, x :: l, _, h, _ => by simp at h
  | f + 1, i, c, [], _, _, _ => rfl
  | f + 1, i, c, x :: l, hn, h, hi => by
    have e : shG i (x :: l) ++ [125] = 44 :: (one x ++ (shG (i + 1) l ++ [125])) := by rw [shG, if_pos hi]; simp
    rw [e, labRd, if_neg (by simp [one])]
    rw [show (44 :: (one x ++ (shG (i + 1) l ++ [125]))).drop 1 = x.1.data.toList ++ 61 :: (34 :: (esc x.2.data.toList ++ 34 :: (shG (i + 1) l ++ [125]))) from by rw [List.drop_succ_cons, List.drop_zero, one_app]]
    rw [ct_name _ _ (hn x List.mem_cons_self)]
    simp only [List.drop_succ_cons, List.drop_zero]
    rw [wd_esc]
    simp only []
    rw [labRd_show f (i + 1) c l (fun z hz => hn z (List.mem_cons_of_mem _ hz)) (by simpa using h) (Nat.succ_pos _)]
    rfl
theorem check_names {l : List Lab} (h : checkB l = true) : namesOk l := fun x hx => name_ok (check_right h x hx).1
theorem lab_show {l : List Lab} (h : checkB l = true) : labRd 7 (showL l) = some l := by
  obtain ⟨h1, h2⟩ := check_len h
  have hn := check_names h
  cases l with
  | nil => simp at h1
  | cons x l =>
    have e : showL (x :: l) = 123 :: (one x ++ (shG 1 l ++ [125])) := by unfold showL; rw [shG, if_neg (by omega)]; simp
    rw [e, labRd, if_neg (by simp [one])]
    rw [show (123 :: (one x ++ (shG 1 l ++ [125]))).drop 1 = x.1.data.toList ++ 61 :: (34 :: (esc x.2.data.toList ++ 34 :: (shG 1 l ++ [125]))) from by rw [List.drop_succ_cons, List.drop_zero, one_app]]
    rw [ct_name _ _ (hn x List.mem_cons_self)]
    simp only [List.drop_succ_cons, List.drop_zero]
    rw [wd_esc]
    simp only []
    rw [labRd_show 6 1 0 l (fun z hz => hn z (List.mem_cons_of_mem _ hz)) (by simp at h2; omega) (by omega)]
    rfl
theorem refRd_show : ∀ (f i : Nat) (l : List Lab), namesOk l → l.length ≤ f → refRd f ((shG i l ++ [125]).drop 1) = some l ∨ l = [] ∨ i = 0
  | f, 0, _, _, _ => .inr (.inr rfl)
  | _, _ + 1, [], _, _ => .inr (.inl rfl)
  | 0, _ + 1, _ :: _, _, h => by simp at h
  | f + 1, i + 1, x :: l, hn, h => by
    left
    have e : (shG (i + 1) (x :: l) ++ [125]).drop 1 = x.1.data.toList ++ 61 :: (34 :: (esc x.2.data.toList ++ 34 :: (shG (i + 1 + 1) l ++ [125]))) := by rw [shG, if_pos (by omega), ← one_app]; simp
    rw [e, refRd, if_neg (by simp; omega), wd_name _ _ (hn x List.mem_cons_self)]
    simp only [List.drop_succ_cons, List.drop_zero]
    rw [if_neg (by simp), wd_esc]
    simp only []
    rw [if_neg (by simp)]
    cases l with
    | nil =>
      have : refRd f ((shG (i + 1 + 1) [] ++ [125]).drop 1) = some [] := by
        cases f with
        | zero => rfl
        | succ f => rfl
      rw [this]; rfl
    | cons y l =>
      rcases refRd_show f (i + 1 + 1) (y :: l) (fun z hz => hn z (List.mem_cons_of_mem _ hz)) (by simpa using h) with h' | h' | h'
      · rw [h']; rfl
      · cases h'
      · cases h'
theorem shG_pos : ∀ (l : List Lab) (i j : Nat), 0 < i → 0 < j → shG i l = shG j l
  | [], _, _, _, _ => rfl
  | x :: l, i, j, hi, hj => by rw [shG, shG, if_pos hi, if_pos hj, shG_pos l (i + 1) (j + 1) (Nat.succ_pos _) (Nat.succ_pos _)]
theorem ref_show {l : List Lab} (h : checkB l = true) : refRd 7 ((showL l).drop 1) = some l := by
  obtain ⟨h1, h2⟩ := check_len h
  have hn := check_names h
  cases l with
  | nil => simp at h1
  | cons x l =>
    have e : (showL (x :: l)).drop 1 = (shG 1 (x :: l) ++ [125]).drop 1 := by unfold showL; rw [shG, shG, shG_pos l (1 + 1) (0 + 1) (by omega) (by omega)]; simp
    rw [e]
    rcases refRd_show 7 1 (x :: l) hn (by omega) with h' | h' | h'
    · exact h'
    · cases h'
    · cases h'
/-- The labels that are shown so, as the program reads them, and as the document does. -/
def readA (s : Txt) : Option (List Lab) := match labRd 7 s with
  | none => none
  | some l => if checkB l = true ∧ showL l = s then some l else none
def readB (s : Txt) : Option (List Lab) := if s = [] then none else match refRd 7 (s.drop 1) with
  | none => none
  | some l => if checkB l = true ∧ showL l = s then some l else none
theorem readA_iff (s : Txt) (l : List Lab) : readA s = some l ↔ checkB l = true ∧ showL l = s := by
  unfold readA
  constructor
  · intro h
    cases hp : labRd 7 s with
    | none => rw [hp] at h; cases h
    | some m =>
      rw [hp] at h
      simp only [] at h
      split at h
      · rename_i hc; injection h with h; subst h; exact hc
      · cases h
  · rintro ⟨h1, h2⟩
    subst h2
    rw [lab_show h1]
    simp only []
    rw [if_pos ⟨h1, trivial⟩]
theorem readB_iff (s : Txt) (l : List Lab) : readB s = some l ↔ checkB l = true ∧ showL l = s := by
  unfold readB
  constructor
  · intro h
    split at h
    · cases h
    cases hp : refRd 7 (s.drop 1) with
    | none => rw [hp] at h; cases h
    | some m =>
      rw [hp] at h
      simp only [] at h
      split at h
      · rename_i hc; injection h with h; subst h; exact hc
      · cases h
  · rintro ⟨h1, h2⟩
    subst h2
    rw [if_neg (by unfold showL; simp), ref_show h1]
    simp only []
    rw [if_pos ⟨h1, trivial⟩]
theorem read_same (s : Txt) : readA s = readB s := by
  cases h : readA s with
  | some l => exact ((readB_iff s l).2 ((readA_iff s l).1 h)).symm
  | none =>
    cases h2 : readB s with
    | none => rfl
    | some l => rw [(readA_iff s l).2 ((readB_iff s l).1 h2)] at h; cases h
end Go.Proofs.YtdidengokijcjaaDoor.LbM
/-
  strings.Builder: copyCheck, WriteString, WriteByte, String: WHAT A BUILDER OF THE CALL'S OWN HOLDS.
-/
namespace Go.Proofs.YtdidengokijcjaaDoor.FrW
set_option linter.unusedVariables false
open Go.RowKit FrM
/-- A builder in the block b, of the call's own blocks (from B on), that holds these bytes. -/
def Bd (B b : Nat) (l : List UInt8) (w : World) : Prop := Lib.IsBuilder 48 5 B b (Lib.byteCells l) w
theorem builderAt_later {B b : Nat} {p : Value} {bs : List Value} {w w' : World} (h : Lib.BuilderAt 48 5 B b p bs w) (hb : Below w.heap.size w w') : Lib.BuilderAt 48 5 B b p bs w' := by
  have hlt := h.lt
  obtain ⟨hB, v, h1, h2, h3⟩ := h
  exact ⟨hB, v, (hb.block _ hlt).trans h1, own_later h2 hb, h3⟩
theorem Bd.later {B b : Nat} {l : List UInt8} {w w' : World} (h : Bd B b l w) (hb : Below w.heap.size w w') : Bd B b l w' := by
  rcases h with h | h
  · exact .inl (builderAt_later h hb)
  · exact .inr (builderAt_later h hb)
theorem Bd.fresh (w : World) : Bd w.heap.size w.heap.size [] (w.alloc (.cells #[.pointer none, .slice none 0 0] 48 (0, 0))) := Lib.fresh_isBuilder _ _ w
theorem Bd.lt {B b : Nat} {l : List UInt8} {w : World} (h : Bd B b l w) : b < w.heap.size := by
  rcases h with h | h
  · exact h.lt
  · exact h.lt
/-- What a write leaves of other blocks: all but its own and rows of bytes. -/
def Keeps (b : Nat) (w w' : World) : Prop := ∀ (g : Nat) (cs : Array Value) (T : TypeId), g ≠ b → T ≠ 5 → w.heap[g]? = some (.cells cs T (0, 0)) → w'.heap[g]? = some (.cells cs T (0, 0))
theorem Keeps.trans {b : Nat} {w w1 w2 : World} (h : Keeps b w w1) (k : Keeps b w1 w2) : Keeps b w w2 := fun g cs T hg hT hc => k g cs T hg hT (h g cs T hg hT hc)
theorem Keeps.refl (b : Nat) (w : World) : Keeps b w w := fun _ _ _ _ _ hc => hc
theorem Keeps.of_below {b : Nat} {w w' : World} (h : Below w.heap.size w w') : Keeps b w w' := fun g cs T _ _ hc => (h.block _ (Array.getElem?_eq_some_iff.1 hc).1).trans hc
theorem noEscape_any (x : Value) (w : World) : (callFunc 82 #[x]).run Tryd.prog w = .ok (.value x) w := by
  rw [run_callFunc_extern Tryd.func82 (by kernel_rfl) (by kernel_rfl) (by kernel_rfl) (e := Extern.AbiNoEscape.same) (by kernel_rfl), Lib.run_noEscape]
  rfl
theorem sizeBd : (Tryd.prog.info? 48).map (·.size) = some 2 := by kernel_rfl
theorem liesBd : liesAt Tryd.prog Tryd.prog.depth 48 (2 / Tryd.prog.cellsOf 48) 0 48 1 = true := by kernel_rfl
set_option maxRecDepth 20000 in
theorem cc_used (b : Nat) (w : World) (h0 : w.cell? ⟨b, 0, none⟩ = some (.pointer (some ⟨b, 0, none⟩))) :
    Calls Tryd.prog 67 #[.pointer (some ⟨b, 0, none⟩)] w fun e w' => e = .returned (.tuple #[]) ∧ w' = w := by
  obtain ⟨j, hj, _⟩ := Option.map_eq_some_iff.1 sizeBd
  have hne := Lib.run_neq_ptr_same (P := Tryd.prog) w ⟨b, 0, none⟩ Tryd.underlying45 hj
  go_enter Tryd.func67, Tryd.ntmps67
  go_wp2
  go_end0
  exact ⟨rfl, rfl⟩
set_option maxRecDepth 20000 in
theorem cc_fresh (b : Nat) (w : World) (h0 : w.cell? ⟨b, 0, none⟩ = some (.pointer none)) (hsh : w.shape? b = some (48, 2)) (hfz : w.frozen? ⟨b, 0, none⟩ = false) :
    Calls Tryd.prog 67 #[.pointer (some ⟨b, 0, none⟩)] w fun e w' => e = .returned (.tuple #[]) ∧ w' = w.setCell ⟨b, 0, none⟩ (.pointer (some ⟨b, 0, none⟩)) := by
  obtain ⟨j, hj, hjs⟩ := Option.map_eq_some_iff.1 sizeBd
  have h1 := Lib.run_to_unsafe (P := Tryd.prog) w ⟨b, 0, none⟩ Tryd.underlying45 Tryd.underlying118 hj (by rw [hjs]; decide) hsh (Nat.zero_lt_succ 1)
  have h2 := noEscape_any (.pointer (some ⟨b, 0, none⟩)) w
  have h3 := Lib.run_from_unsafe (P := Tryd.prog) w ⟨b, 0, none⟩ Tryd.underlying118 Tryd.underlying45 hj hsh liesBd
  go_enter Tryd.func67, Tryd.ntmps67
  go_wp2
  go_end0
  exact ⟨rfl, rfl⟩
theorem cc_any (B b : Nat) (l : List Value) (w : World) (h : Lib.IsBuilder 48 5 B b l w) :
    Calls Tryd.prog 67 #[.pointer (some ⟨b, 0, none⟩)] w fun e w' => e = .returned (.tuple #[]) ∧ Lib.BuilderAt 48 5 B b (.pointer (some ⟨b, 0, none⟩)) l w' ∧ Below B w w' ∧ Keeps b w w' := by
  rcases h with h | h
  · refine (cc_fresh b w h.cell0 h.shape h.frozen0).mono ?_
    rintro e w' ⟨rfl, rfl⟩
    exact ⟨rfl, h.used _, (Below.refl B w).setCell (p := ⟨b, 0, none⟩) h.1 _, fun g cs T hg hT hc => (Below.heap_setCell _ _ _ _ hg).trans hc⟩
  · refine (cc_used b w h.cell0).mono ?_
    rintro e w' ⟨rfl, rfl⟩
    exact ⟨rfl, h, Below.refl B _, Keeps.refl _ _⟩
theorem elemU8 : Elem Tryd.prog 5 (.int .u8 0) 1 1 := by unfold Elem; kernel_rfl
theorem own_slice {W : World} {B n : Nat} {e : TypeId} {v : Value} {xs : List Value} (h : W.ownsRow B e 1 v n xs) : ∃ ao n' cap, v = .slice ao n' cap := by
  rcases h.2 with ⟨hv, _⟩ | ⟨g, cap, cur, hv, _⟩
  · exact ⟨_, _, _, hv⟩
  · exact ⟨_, _, _, hv⟩
theorem put_facts {w w1 w2 : World} {B b n' cap : Nat} {ao : Option Addr} {v : Value} {l m : List UInt8} (hB : B ≤ b) (hbk : w1.heap[b]? = some (.cells #[.pointer (some ⟨b, 0, none⟩), v] 48 (0, 0)))
    (hown : w1.ownsRow B 5 1 v (Lib.byteCells l).length (Lib.byteCells l)) (hne : v.ownBlock ≠ some b) (hb1 : Below B w w1) (hbz : B ≤ w1.heap.size) (hkk : Keeps b w w1) (hgrow : w1.grownBy w2 v.ownBlock)
    (hown' : w2.ownsRow B 5 1 (.slice ao n' cap) ((Lib.byteCells l).length + m.length) (Lib.byteCells l ++ Lib.byteCells m)) :
    w2.cell? ⟨b, 0, none⟩ = some (.pointer (some ⟨b, 0, none⟩)) ∧ w2.cell? ⟨b, 1, none⟩ = some v ∧ w2.frozen? ⟨b, 1, none⟩ = false ∧
      Hid (Lib.BuilderAt 48 5 B b (.pointer (some ⟨b, 0, none⟩)) (Lib.byteCells (l ++ m)) (w2.setCell ⟨b, 1, none⟩ (.slice ao n' cap)) ∧ Below B w (w2.setCell ⟨b, 1, none⟩ (.slice ao n' cap)) ∧ Keeps b w (w2.setCell ⟨b, 1, none⟩ (.slice ao n' cap))) := by
  have hlt : b < w1.heap.size := (Array.getElem?_eq_some_iff.1 hbk).1
  have hb2 : w2.heap[b]? = some (.cells #[.pointer (some ⟨b, 0, none⟩), v] 48 (0, 0)) := by
    rw [hgrow.block b hlt (fun e => hne e.symm)]; exact hbk
  refine ⟨by rw [Lib.cell_of_heap hb2]; rfl, by rw [Lib.cell_of_heap hb2]; rfl, Lib.frozen_of_heap hb2 1, Lib.hid ⟨?_, ?_, ?_⟩⟩
  · refine Lib.BuilderAt.put (T := 48) (e := 5) hB hb2 ?_ (by decide)
    have e1 : Lib.byteCells (l ++ m) = Lib.byteCells l ++ Lib.byteCells m := by simp [Lib.byteCells]
    rw [e1, List.length_append, Lib.byteCells_length m]
    exact hown'
  · exact (hb1.grown hgrow hbz (fun k hk => (hown.lt k hk).1)).setCell (p := ⟨b, 1, none⟩) hB _
  · intro g cs T hg hT hc
    have h1 := hkk g cs T hg hT hc
    rw [Below.heap_setCell _ _ _ _ hg, hgrow.block g (Array.getElem?_eq_some_iff.1 h1).1 (fun e => ?_)]
    · exact h1
    · rcases hown.2 with ⟨hv, _⟩ | ⟨g2, cap2, cur2, hv, _, hg2, _⟩
      · rw [hv] at e; simp [Value.ownBlock] at e
      · rw [hv] at e
        simp only [Value.ownBlock, Option.some.injEq] at e
        rw [e, hg2] at h1
        injection h1 with h1
        injection h1 with h1 h2 h3
        exact hT h2.symm
theorem put_facts1 {w w1 w2 : World} {B b n' cap : Nat} {ao : Option Addr} {v : Value} {l : List UInt8} {c : UInt8} {x : Int} (hB : B ≤ b) (hbk : w1.heap[b]? = some (.cells #[.pointer (some ⟨b, 0, none⟩), v] 48 (0, 0)))
    (hown : w1.ownsRow B 5 1 v (Lib.byteCells l).length (Lib.byteCells l)) (hne : v.ownBlock ≠ some b) (hb1 : Below B w w1) (hbz : B ≤ w1.heap.size) (hkk : Keeps b w w1) (hgrow : (w1.alloc (.cells #[.int .u8 x] 5 (0, 0))).grownBy w2 v.ownBlock)
    (hown' : w2.ownsRow B 5 1 (.slice ao n' cap) ((Lib.byteCells l).length + 1) (Lib.byteCells l ++ [.int .u8 (c.toNat : Int)])) :
    w2.cell? ⟨b, 0, none⟩ = some (.pointer (some ⟨b, 0, none⟩)) ∧ w2.cell? ⟨b, 1, none⟩ = some v ∧ w2.frozen? ⟨b, 1, none⟩ = false ∧
      Hid (Lib.BuilderAt 48 5 B b (.pointer (some ⟨b, 0, none⟩)) (Lib.byteCells (l ++ [c])) (w2.setCell ⟨b, 1, none⟩ (.slice ao n' cap)) ∧ Below B w (w2.setCell ⟨b, 1, none⟩ (.slice ao n' cap)) ∧ Keeps b w (w2.setCell ⟨b, 1, none⟩ (.slice ao n' cap))) :=
  put_facts (w := w) (m := [c]) hB ((Lib.alloc_old w1 _ b (Array.getElem?_eq_some_iff.1 hbk).1).trans hbk) (hown.alloc _) hne (hb1.alloc hbz _) (by simp; omega) (hkk.trans (Keeps.of_below ((Below.refl _ _).alloc (Nat.le_refl _) _))) hgrow hown'
theorem alloc_one (w : World) (x : Int) : ∀ j u, ([.int .u8 x] : List Value)[j]? = some u → (w.alloc (.cells #[.int .u8 x] 5 (0, 0))).cell? ((⟨w.heap.size, 0, none⟩ : Addr).add j) = some u := by
  intro j u hj
  match j, hj with
  | 0, hj => simp at hj; subst hj; simp [Addr.add]
theorem one_cell (x : Int) : ∀ u ∈ ([.int .u8 x] : List Value), u.oneCell' = true := by
  intro u hu; simp at hu; subst hu; rfl
/-- WriteString. -/
theorem writes_any (B b : Nat) (l m : List UInt8) (w : World) (h : Bd B b l w) (hlen : l.length + m.length ≤ 140737488355328) (hBw : B ≤ w.heap.size) :
    Calls Tryd.prog 50 #[.pointer (some ⟨b, 0, none⟩), .string (bs m)] w fun e w' => e = .returned (.tuple #[.int .i64 (m.length : Int), .nilIface]) ∧ Bd B b (l ++ m) w' ∧ Below B w w' ∧ Keeps b w w' := by
  obtain ⟨i0, hi, hz0, hz1, hz2⟩ := info_parts elemU8
  have hm := bs_size m
  have hsc : Lib.strCells (bs m) = Lib.byteCells m := rfl
  have hll : (Lib.byteCells l).length = l.length := Lib.byteCells_length l
  go_enter Tryd.func50, Tryd.ntmps50
  go_wp2_with fail
  refine (cc_any B b _ _ h).mono ?_
  rintro e w1 ⟨rfl, h1, hb1, hk1⟩
  obtain ⟨hB, v, hbk, hown, hne⟩ := h1
  have c0 : w1.cell? ⟨b, 0, none⟩ = some (.pointer (some ⟨b, 0, none⟩)) := by rw [Lib.cell_of_heap hbk]; rfl
  have c1 : w1.cell? ⟨b, 1, none⟩ = some v := by rw [Lib.cell_of_heap hbk]; rfl
  have hbz : B ≤ w1.heap.size := Nat.le_trans hBw hb1.size
  go_wp2_with (at_builtin; go_must (refine Lib.wpList_append_own_string (P := Tryd.prog) _ rfl _ _ 46 9 rfl B 5 i0 Tryd.underlying46 Tryd.underlying9 hi hz0 hz1 hz2 v _ _ rfl hown (bs m) rfl (by unfold maxLen; omega) (by omega) hbz ?_); intro v' w2 hown' hgrow _; obtain ⟨ao, n', cap, rfl⟩ := own_slice hown'; obtain ⟨d0, d1, f1, HF⟩ := put_facts hB hbk hown hne hb1 hbz hk1 hgrow (m := m) (by rw [hm] at hown'; exact hown'); clear hown hown' hgrow hbk hb1 hne)
  go_wp2
  go_ret2
  exact ⟨rfl, .inr HF.out.1, HF.out.2.1, HF.out.2.2⟩
/-- String. -/
theorem bstring_any (B b : Nat) (l : List UInt8) (w : World) (h : Bd B b l w) (hBw : B ≤ w.heap.size) :
    Calls Tryd.prog 17 #[.pointer (some ⟨b, 0, none⟩)] w fun e w' => e = .returned (.string (bs l)) ∧ Below B w w' :=
  Any.Builder_String_any Tryd.lays169 Tryd.Builder_Extra_169 B b l w h hBw
end Go.Proofs.YtdidengokijcjaaDoor.FrW
/-
  label.Get, alluviumref06.Get: THE WALKS.
-/
namespace Go.Proofs.YtdidengokijcjaaDoor.LabW
open Go.RowKit Go.Shelf LabM
def encL (x : Lab) : List Value := [.string x.1, .string x.2]
def okL (x : Lab) : Prop := x.1.size ≤ maxLen ∧ x.2.size ≤ maxLen
theorem lab_cells {w : World} {A : Option Addr} {l : List Lab} (h : Lies w w.heap.size 2 encL A l) {k : Nat} (hk : k < l.length) :
    ∃ b o, A = some ⟨b, o, none⟩ ∧ ∀ W, Below w.heap.size w W → W.cell? ⟨b, o + k * 2, none⟩ = some (.string l[k].1) ∧ W.cell? ⟨b, o + k * 2 + 1, none⟩ = some (.string l[k].2) := by
  obtain ⟨b, o, hA, _, hc⟩ := h.all hk
  exact ⟨b, o, hA, fun W hW => ⟨hc W hW 0 _ rfl, hc W hW 1 _ rfl⟩⟩
end Go.Proofs.YtdidengokijcjaaDoor.LabW
/-
  label.masks, label.all, label.Check: THE WALKS.
-/
namespace Go.Proofs.YtdidengokijcjaaDoor.LabW
open Go.RowKit Go.Shelf LabM
/-- The table as a row of cells. -/
def Tb (f : Nat → Nat) (cs : Array Value) : Prop := cs.size = 256 ∧ ∀ i, i < 256 → cs[i]? = some (.int .u8 (f i : Int))
theorem Tb.set {f g : Nat → Nat} {cs : Array Value} (h : Tb f cs) {k x : Nat} (hg : ∀ i, g i = if i = k then x else f i) {v : Value} (hv : v = .int .u8 (x : Int)) : Tb g (cs.setIfInBounds k v) := by
  refine ⟨by simp [h.1], fun i hi => ?_⟩
  rw [hg]
  by_cases e : i = k
  · subst e; rw [Array.getElem?_setIfInBounds_self_of_lt (by rw [h.1]; omega), hv, if_pos rfl]
  · rw [Array.getElem?_setIfInBounds_ne (by omega), if_neg e]; exact h.2 i hi
theorem Tb.congr {f g : Nat → Nat} {cs : Array Value} (h : Tb f cs) (e : ∀ i, f i = g i) : Tb g cs := ⟨h.1, fun i hi => by rw [← e]; exact h.2 i hi⟩
theorem Tb.one {f : Nat → Nat} {cs : Array Value} (h : Tb f cs) : cs.all (·.oneCell') = true := by
  rw [Array.all_eq_true]
  intro i hi
  have := h.2 i (by have := h.1; omega)
  rw [Array.getElem?_eq_getElem hi] at this
  rw [Option.some.inj this]; rfl
theorem or04 : bits BinOp.or IntKind.u8 0 4 = 4 := u8_or_nat 0 4 (by decide) (by decide)
theorem or42 : bits BinOp.or IntKind.u8 4 2 = 6 := u8_or_nat 4 2 (by decide) (by decide)
theorem or43 : bits BinOp.or IntKind.u8 4 3 = 7 := u8_or_nat 4 3 (by decide) (by decide)
/-- The cells of an array of 256 bytes, before anything is written (a seat whose translation lies in one part names none). -/
def zeroCells256 : Array Value := Array.replicate 256 (.int .u8 0)
theorem zero256 : Tb (fun _ => 0) zeroCells256 := by
  unfold zeroCells256
  exact ⟨by simp, fun i hi => by simp [hi]⟩
theorem zeroCells256_size : zeroCells256.size = 256 := zero256.1
theorem zeroCells256_ne : ¬ zeroCells256 = #[] := fun h => by
  have := zeroCells256_size
  rw [h] at this
  exact absurd this (by decide)
attribute [local simp] zeroCells256_ne zeroCells256_size
/-- A byte's mask. -/
theorem take_snocU (s : ByteArray) (k : Nat) (h : k < s.size) : s.data.toList.take (k + 1) = s.data.toList.take k ++ [s[k]] := by
  have hl : k < s.data.toList.length := by simpa using h
  rw [List.take_add_one, List.getElem?_eq_getElem hl]
  simp [ByteArray.getElem_eq_getElem_data]
theorem toList_data (s : ByteArray) : s.toList = s.data.toList := by
  exact ByteArray.toList_eq s
theorem mask_lt (c : Nat) : maskN c < 8 := by unfold maskN; repeat' split
                                              all_goals omega
end Go.Proofs.YtdidengokijcjaaDoor.LabW
/-
  label.Check: THE WALK.
-/
namespace Go.Proofs.YtdidengokijcjaaDoor.LabW
open Go.RowKit Go.Shelf LabM
theorem bytesLess_ltB (a b : Txt) : Op.bytesLess a b = ltB a b := by
  induction a generalizing b with
  | nil => cases b <;> rfl
  | cons x a ih =>
    cases b with
    | nil => rfl
    | cons y b =>
      unfold Op.bytesLess ltB
      rw [ih]
      by_cases h : x = y
      · subst h; simp
      · rw [if_neg h]
        have : (x == y) = false := by simpa using h
        rw [this, Bool.false_and, Bool.or_false, decide_eq_decide]
        exact UInt8.lt_iff_toNat_lt
theorem gt_yes {a b : ByteArray} (h : Op.bytesLess a.toList b.toList = false ∧ ¬ a.toList = b.toList) : ltB b.data.toList a.data.toList = true := by
  rw [← ltB_tri, ← toList_data, ← toList_data, ← bytesLess_ltB, h.1]
  simpa using h.2
theorem gt_no {a b : ByteArray} (h : ¬ (Op.bytesLess a.toList b.toList = false ∧ ¬ a.toList = b.toList)) : ltB b.data.toList a.data.toList = false := by
  cases e : ltB b.data.toList a.data.toList with
  | false => rfl
  | true =>
    rw [← ltB_tri, ← toList_data, ← toList_data, ← bytesLess_ltB] at e
    simp at e
    exact absurd e h
theorem allM_pos {s : ByteArray} {m : Nat} (h : allM s.data.toList m = true) : 1 ≤ s.size := by
  unfold allM at h
  simp only [Bool.and_eq_true] at h
  have h1 := h.1.2
  have h2 : s.data.toList.length = s.size := by simp
  cases e : s.data.toList with
  | nil => rw [e] at h1; cases h1
  | cons a t => rw [e] at h2; simp at h2; omega
theorem name_split (s : Txt) : nameB s = (allM s 2 && allM (s.take 1) 1) := (name_of_masks s).symm
theorem chk_no {l : List Lab} (h : chkL [] l = false) : checkB l = false := by unfold checkB; rw [h]; rfl
end Go.Proofs.YtdidengokijcjaaDoor.LabW
/-
  match.pick AT LABELS, MATCHERS, SAMPLES: by whatever function value tells.
-/
namespace Go.Proofs.YtdidengokijcjaaDoor.LabW
open Go.RowKit Go.Shelf LabM
/-- A matcher: its kind, its name, its value. -/
abbrev Mat := Int × ByteArray × ByteArray
def encM (x : Mat) : List Value := [.int .i64 x.1, .string x.2.1, .string x.2.2]
def okM (x : Mat) : Prop := -9223372036854775808 ≤ x.1 ∧ x.1 ≤ 9223372036854775807 ∧ x.2.1.size ≤ maxLen ∧ x.2.2.size ≤ maxLen
/-- A sample: its time, its value. -/
abbrev Sam := Int × Int
def encS (x : Sam) : List Value := [.int .i64 x.1, .int .u64 x.2]
def okS (x : Sam) : Prop := -9223372036854775808 ≤ x.1 ∧ x.1 ≤ 9223372036854775807 ∧ 0 ≤ x.2 ∧ x.2 < 18446744073709551616
theorem take_filter {α : Type} (p : α → Bool) (l : List α) (k : Nat) (h : k < l.length) : (l.take (k + 1)).filter p = (l.take k).filter p ++ if p l[k] then [l[k]] else [] := by
  rw [take_snocL l k h, List.filter_append]
  congr 1
  cases hp : p l[k] <;> simp [hp]
theorem M_cells {w : World} {A : Option Addr} {l : List Mat} (h : Lies w w.heap.size 3 encM A l) {k : Nat} (hk : k < l.length) :
    ∃ b o, A = some ⟨b, o, none⟩ ∧ ∀ W, Below w.heap.size w W → W.cell? ⟨b, o + k * 3, none⟩ = some (.int .i64 l[k].1) ∧ W.cell? ⟨b, o + k * 3 + 1, none⟩ = some (.string l[k].2.1) ∧ W.cell? ⟨b, o + k * 3 + 2, none⟩ = some (.string l[k].2.2) := by
  obtain ⟨b, o, hA, _, hc⟩ := h.all hk
  exact ⟨b, o, hA, fun W hW => ⟨hc W hW 0 _ rfl, hc W hW 1 _ rfl, hc W hW 2 _ rfl⟩⟩
theorem one3 {v x y : Value} (h : v.oneCell' = true) (k : x.oneCell' = true) (m : y.oneCell' = true) : ∀ u ∈ (#[v, x, y] : Array Value).toList, u.oneCell' = true := by
  intro u hu; simp at hu; rcases hu with hu | hu | hu <;> rw [hu] <;> assumption
theorem S_cells {w : World} {A : Option Addr} {l : List Sam} (h : Lies w w.heap.size 2 encS A l) {k : Nat} (hk : k < l.length) :
    ∃ b o, A = some ⟨b, o, none⟩ ∧ ∀ W, Below w.heap.size w W → W.cell? ⟨b, o + k * 2, none⟩ = some (.int .i64 l[k].1) ∧ W.cell? ⟨b, o + k * 2 + 1, none⟩ = some (.int .u64 l[k].2) := by
  obtain ⟨b, o, hA, _, hc⟩ := h.all hk
  exact ⟨b, o, hA, fun W hW => ⟨hc W hW 0 _ rfl, hc W hW 1 _ rfl⟩⟩
theorem elemS : Elem Tryd.prog 37 (.agg #[.int .i64 0, .int .u64 0]) 2 16 := by unfold Elem; kernel_rfl
end Go.Proofs.YtdidengokijcjaaDoor.LabW
/-
  strings.HasPrefix, match.Fits: THE WALKS.
-/
namespace Go.Proofs.YtdidengokijcjaaDoor.LabW
open Go.RowKit Go.Shelf LabM
/-- Does it begin with it? -/
def prefB (v p : ByteArray) : Bool := decide (p.size ≤ v.size) && ((v.extract 0 p.size).toList == p.toList)
def thereB (l : List Lab) (nm : ByteArray) : Bool := l.any fun x => x.1.toList == nm.toList
/-- Does a matcher fit labels? -/
def fitsB (m : Mat) (l : List Lab) : Bool :=
  if m.1 = 0 then (getL l m.2.1).toList == m.2.2.toList
  else if m.1 = 1 then (getL l m.2.1).toList != m.2.2.toList
  else if m.1 = 2 then prefB (getL l m.2.1) m.2.2
  else if m.1 = 3 then thereB l m.2.1
  else false
theorem fitsB_0 (nm vl : ByteArray) (l : List Lab) : fitsB (0, nm, vl) l = ((getL l nm).toList == vl.toList) := rfl
theorem fitsB_1 (nm vl : ByteArray) (l : List Lab) : fitsB (1, nm, vl) l = !((getL l nm).toList == vl.toList) := rfl
theorem fitsB_2 (nm vl : ByteArray) (l : List Lab) : fitsB (2, nm, vl) l = prefB (getL l nm) vl := rfl
theorem fitsB_3 (nm vl : ByteArray) (l : List Lab) : fitsB (3, nm, vl) l = thereB l nm := rfl
theorem fitsB_no (kd : Int) (nm vl : ByteArray) (l : List Lab) (h0 : ¬ kd = 0) (h1 : ¬ kd = 1) (h2 : ¬ kd = 2) (h3 : ¬ kd = 3) : fitsB (kd, nm, vl) l = false := by
  unfold fitsB
  simp only [if_neg h0, if_neg h1, if_neg h2, if_neg h3]
theorem len_filter_pos {α : Type} (p : α → Bool) (l : List α) : decide (0 < (l.filter p).length) = l.any p := by
  induction l with
  | nil => rfl
  | cons x l ih =>
    by_cases h : p x = true
    · simp [h]
    · have h' : p x = false := by simpa using h
      simp only [List.filter_cons, h', List.any_cons, Bool.false_or]
      exact ih
theorem getL_size (l : List Lab) (nm : ByteArray) (h : ∀ x ∈ l, okL x) : (getL l nm).size ≤ maxLen := by
  induction l with
  | nil => exact Nat.zero_le _
  | cons x l ih =>
    unfold getL
    split
    · exact (h x (by simp)).2
    · exact ih (fun y hy => h y (by simp [hy]))
end Go.Proofs.YtdidengokijcjaaDoor.LabW
/-
  match.All, alluviumref07.Fits, alluviumref07.All: THE WALKS.
-/
namespace Go.Proofs.YtdidengokijcjaaDoor.LabW
open Go.RowKit Go.Shelf LabM
def allB (ms : List Mat) (l : List Lab) : Bool := ms.all fun m => fitsB m l
theorem filter_all {α : Type} (p : α → Bool) (l : List α) : decide ((l.filter p).length = l.length) = l.all p := by
  rw [Bool.eq_iff_iff, decide_eq_true_iff, List.all_eq_true, List.length_filter_eq_length_iff]
end Go.Proofs.YtdidengokijcjaaDoor.LabW
/-
  match.right, match.Check: THE WALKS.
-/
namespace Go.Proofs.YtdidengokijcjaaDoor.LabW
open Go.RowKit Go.Shelf LabM
/-- May a matcher be? -/
def rightB (m : Mat) : Bool := decide (0 ≤ m.1) && decide (m.1 ≤ 3) && nameB m.2.1.data.toList && (m.2.2.data.toList.isEmpty || decide (m.1 < 3) && valueB m.2.2.data.toList)
def checkMB (ms : List Mat) : Bool := ms.all rightB && decide (ms.length ≤ 8)
theorem checkB_one (nm vl : ByteArray) : checkB [(nm, vl)] = (nameB nm.data.toList && valueB vl.data.toList) := by
  unfold checkB chkL chkL
  have e : nameB nm.data.toList = true → ltB [] nm.data.toList = true := by
    intro h
    cases hh : nm.data.toList with
    | nil => rw [hh] at h; cases h
    | cons a t => rfl
  cases hn : nameB nm.data.toList
  · simp
  · rw [e hn]; simp
theorem dash_le : (⟨#[45]⟩ : ByteArray).size ≤ maxLen := by decide
theorem dash_ok : valueB (⟨#[45]⟩ : ByteArray).data.toList = true := by decide
theorem ne_list {s : ByteArray} (h : ¬ s.toList = []) : s.data.toList.isEmpty = false := by
  rw [← toList_data]
  cases e : s.toList with
  | nil => exact absurd e h
  | cons => rfl
theorem em_list {s : ByteArray} (h : s.toList = []) : s.data.toList.isEmpty = true := by rw [← toList_data, h]; rfl
theorem check_filter {α : Type} (p : α → Bool) (l : List α) : decide ((l.filter p).length < l.length) = !l.all p := by
  have h := filter_all p l
  have hle := List.length_filter_le p l
  rw [← h, Bool.eq_iff_iff]
  simp only [decide_eq_true_eq, Bool.not_eq_true', decide_eq_false_iff_not]
  omega
end Go.Proofs.YtdidengokijcjaaDoor.LabW
/-
  alluviumref06.Name, Value, Ahead: THE WALKS.
-/
namespace Go.Proofs.YtdidengokijcjaaDoor.LabW
open Go.RowKit Go.Shelf LabM
theorem mem_byte (s : ByteArray) (k : Nat) (h : k < s.size) : s[k] ∈ s.data.toList := by
  rw [ByteArray.getElem_eq_getElem_data]; simp
theorem len_bytes (s : ByteArray) : s.data.toList.length = s.size := by simp
def nmB (c : UInt8) : Bool := lowB c || digitB c
theorem byte_cases (c : UInt8) : ((c.toNat : Int) < 48 ∧ nmB c = false) ∨ ((48 ≤ (c.toNat : Int) ∧ (c.toNat : Int) ≤ 57) ∧ nmB c = true) ∨ ((58 ≤ (c.toNat : Int) ∧ (c.toNat : Int) ≤ 94) ∧ nmB c = false) ∨ ((c.toNat : Int) = 95 ∧ nmB c = true) ∨ ((c.toNat : Int) = 96 ∧ nmB c = false) ∨
    ((97 ≤ (c.toNat : Int) ∧ (c.toNat : Int) ≤ 122) ∧ nmB c = true) ∨ (123 ≤ (c.toNat : Int) ∧ nmB c = false) := by
  have h : nmB c = decide (((97 ≤ c.toNat ∧ c.toNat ≤ 122) ∨ c.toNat = 95) ∨ (48 ≤ c.toNat ∧ c.toNat ≤ 57)) := by
    unfold nmB lowB digitB
    simp only [Bool.decide_or, Bool.decide_and]
  rw [h]
  simp only [decide_eq_true_eq, decide_eq_false_iff_not]
  omega
theorem nameB_loop (s : ByteArray) (h0 : s.data.toList.isEmpty = false) (h48 : s.size ≤ 48) (hd : (s.data.toList.take 1).all digitB = false) : nameB s.data.toList = s.data.toList.all nmB := by
  unfold nameB
  rw [hd, h0, len_bytes, decide_eq_true h48]
  simp only [Bool.not_false, Bool.and_true]
  rfl
theorem shown_cases (c : UInt8) : ((c.toNat : Int) < 32 ∧ shownB c = false) ∨ ((32 ≤ (c.toNat : Int) ∧ (c.toNat : Int) ≤ 126) ∧ shownB c = true) ∨ ((32 ≤ (c.toNat : Int) ∧ 126 < (c.toNat : Int)) ∧ shownB c = false) := by
  have h : shownB c = decide (32 ≤ c.toNat ∧ c.toNat ≤ 126) := by unfold shownB; rw [Bool.decide_and]
  rw [h]
  simp only [decide_eq_true_eq, decide_eq_false_iff_not]
  omega
end Go.Proofs.YtdidengokijcjaaDoor.LabW
/-
  alluviumref07.Right, AllRight, All: THE WALKS.
-/
namespace Go.Proofs.YtdidengokijcjaaDoor.LabW
open Go.RowKit Go.Shelf LabM
end Go.Proofs.YtdidengokijcjaaDoor.LabW
