/-
  LABELS AS BYTES, AND AS THEY ARE SHOWN: THE PLAIN LAW.
-/
import Derived.Test.YtdjgndnllaingaaJ02
import Derived.Test.YtdjgndnllaingaaJ01
/-
  LABELS AS BYTES, AND AS THEY ARE SHOWN: THE PLAIN LAW.
-/
namespace Go.Proofs.Ytdjgndnllaingaa.LbM
set_option linter.unusedVariables false
open FrM LabM
/-- Bytes as a string. -/
def tx (l : Txt) : ByteArray := ⟨l.toArray⟩
theorem tx_list (l : Txt) : (tx l).data.toList = l := rfl
theorem tx_of (s : ByteArray) : tx s.data.toList = s := rfl
theorem lab_eq (x : Lab) : (tx x.1.data.toList, tx x.2.data.toList) = x := rfl
/-- The labels as bytes. -/
def keyL : List Lab → Txt
  | [] => []
  | x :: l => text x.1.data.toList ++ (text x.2.data.toList ++ keyL l)
/-- A text that bytes begin with, and what is behind it. -/
def getT (s : Txt) : Option (Txt × Txt) := match gs 0 0 s with
  | none => none
  | some (n, k) => if s.length - k < n ∨ 48 < n then none else some ((s.drop k).take n, s.drop (k + n))
/-- The pairs that bytes are. -/
def pairs : Nat → Txt → Option (List Lab)
  | 0, _ => some []
  | f + 1, s => if s = [] then some [] else match getT s with
    | none => none
    | some (n, s1) => match getT s1 with
      | none => none
      | some (v, s2) => (pairs f s2).map ((tx n, tx v) :: ·)
theorem getT_put (b r : Txt) (h : b.length ≤ 48) : getT (text b ++ r) = some (b, r) := by
  unfold getT text
  rw [List.append_assoc, gs_small _ _ (by omega)]
  have e1 : (small b.length ++ (b ++ r)).drop (small b.length).length = b ++ r := List.drop_left
  have e2 : (small b.length ++ (b ++ r)).drop ((small b.length).length + b.length) = r := by
    rw [← List.drop_drop, e1, List.drop_left]
  have e3 : (small b.length ++ (b ++ r)).length - (small b.length).length = b.length + r.length := by simp
  simp only [e1, e2, e3]
  rw [if_neg (by omega), List.take_left]
theorem getT_is {s b r : Txt} (h : getT s = some (b, r)) : s = text b ++ r ∧ b.length ≤ 48 := by
  unfold getT at h
  cases hg : gs 0 0 s with
  | none => rw [hg] at h; cases h
  | some p =>
    obtain ⟨n, k⟩ := p
    rw [hg] at h
    simp only [] at h
    obtain ⟨h1, h2, h3⟩ := gs_is hg
    split at h
    · cases h
    · rename_i hc
      injection h with h
      injection h with ha hb
      have hl : ((s.drop k).take n).length = n := by rw [List.length_take, List.length_drop]; omega
      refine ⟨?_, by rw [← ha, hl]; omega⟩
      unfold text
      rw [← ha, hl, ← hb, List.append_assoc, ← List.drop_drop, List.take_append_drop]
      exact h3
theorem text_inj {a b r q : Txt} (ha : a.length < 18446744073709551616) (hb : b.length < 18446744073709551616) (h : text a ++ r = text b ++ q) : a = b ∧ r = q := by
  unfold text at h
  rw [List.append_assoc, List.append_assoc] at h
  have h1 := gs_small a.length (a ++ r) ha
  have h2 := gs_small b.length (b ++ q) hb
  rw [h, h2] at h1
  injection h1 with h1
  injection h1 with h1 h3
  rw [h1] at h
  have h := List.append_cancel_left h
  exact List.append_inj h h1.symm
def small48 (l : List Lab) : Prop := ∀ x ∈ l, x.1.data.toList.length ≤ 48 ∧ x.2.data.toList.length ≤ 48
def fits64 (l : List Lab) : Prop := ∀ x ∈ l, x.1.data.toList.length < 18446744073709551616 ∧ x.2.data.toList.length < 18446744073709551616
theorem key_inj : ∀ (a b : List Lab), fits64 a → fits64 b → a.length = b.length → keyL a = keyL b → a = b
  | [], [], _, _, _, _ => rfl
  | [], _ :: _, _, _, h, _ => by simp at h
  | _ :: _, [], _, _, h, _ => by simp at h
  | x :: a, y :: b, ha, hb, hl, h => by
    have hx := ha x List.mem_cons_self
    have hy := hb y List.mem_cons_self
    have h1 := text_inj hx.1 hy.1 h
    have h2 := text_inj hx.2 hy.2 h1.2
    have h3 := key_inj a b (fun z hz => ha z (List.mem_cons_of_mem _ hz)) (fun z hz => hb z (List.mem_cons_of_mem _ hz)) (by simpa using hl) h2.2
    have e1 : x.1 = y.1 := congrArg tx h1.1
    have e2 : x.2 = y.2 := congrArg tx h2.1
    rw [h3, show x = y from Prod.ext e1 e2]
theorem text_ne (b r : Txt) : text b ++ r ≠ [] := by
  intro h
  have := congrArg List.length h
  simp only [text, List.length_append, List.length_nil] at this
  have h2 := sm_pos 9 b.length
  unfold small at this
  omega
theorem pairs_key : ∀ (f : Nat) (l : List Lab), small48 l → l.length < f → pairs f (keyL l) = some l
  | 0, _, _, h => by omega
  | f + 1, [], _, _ => rfl
  | f + 1, x :: l, hs, h => by
    have hx := hs x List.mem_cons_self
    unfold pairs keyL
    rw [if_neg (text_ne _ _), getT_put _ _ hx.1]
    simp only []
    rw [getT_put _ _ hx.2]
    simp only []
    rw [pairs_key f l (fun z hz => hs z (List.mem_cons_of_mem _ hz)) (by simpa using h)]
    rfl
theorem pairs_is : ∀ (f : Nat) (s : Txt) (l : List Lab), s.length < f → pairs f s = some l → keyL l = s
  | 0, _, _, h, _ => by omega
  | f + 1, s, l, h, hp => by
    unfold pairs at hp
    split at hp
    · rename_i hs; injection hp with hp; rw [← hp, hs]; rfl
    · cases h1 : getT s with
      | none => rw [h1] at hp; cases hp
      | some p =>
        obtain ⟨n, s1⟩ := p
        rw [h1] at hp; simp only [] at hp
        obtain ⟨g1, g2⟩ := getT_is h1
        cases h2 : getT s1 with
        | none => rw [h2] at hp; cases hp
        | some q =>
          obtain ⟨v, s2⟩ := q
          rw [h2] at hp; simp only [] at hp
          obtain ⟨g3, g4⟩ := getT_is h2
          cases h3 : pairs f s2 with
          | none => rw [h3] at hp; cases hp
          | some m =>
            rw [h3] at hp
            injection hp with hp
            have hlen : s2.length < f := by
              have e1 := congrArg List.length g1
              have e2 := congrArg List.length g3
              have e3 := sm_pos 9 n.length
              simp [text, small] at e1 e2
              omega
            have ih := pairs_is f s2 m hlen h3
            rw [← hp, g1, g3, ← ih]
            rfl
theorem chk_right : ∀ (l : List Lab) (last : Txt), chkL last l = true → ∀ x ∈ l, nameB x.1.data.toList = true ∧ valueB x.2.data.toList = true
  | [], _, _ => fun x hx => by cases hx
  | y :: l, last, h => by
    unfold chkL at h
    simp only [Bool.and_eq_true] at h
    intro x hx
    rcases List.mem_cons.1 hx with rfl | hx
    · exact ⟨h.1.1.2, h.1.2⟩
    · exact chk_right l _ h.2 x hx
theorem check_right {l : List Lab} (h : checkB l = true) : ∀ x ∈ l, nameB x.1.data.toList = true ∧ valueB x.2.data.toList = true := by
  unfold checkB at h
  simp only [Bool.and_eq_true] at h
  exact chk_right l [] h.1.1
theorem check_len {l : List Lab} (h : checkB l = true) : 1 ≤ l.length ∧ l.length ≤ 6 := by
  unfold checkB at h
  simp only [Bool.and_eq_true, decide_eq_true_eq] at h
  refine ⟨?_, h.2⟩
  cases l with
  | nil => simp at h
  | cons x l => simp
theorem name_48 {s : Txt} (h : nameB s = true) : 1 ≤ s.length ∧ s.length ≤ 48 := by
  unfold nameB at h
  simp only [Bool.and_eq_true, decide_eq_true_eq] at h
  refine ⟨?_, h.1.2⟩
  cases s with
  | nil => simp at h
  | cons x l => simp
theorem value_48 {s : Txt} (h : valueB s = true) : 1 ≤ s.length ∧ s.length ≤ 48 := by
  unfold valueB at h
  simp only [Bool.and_eq_true, decide_eq_true_eq] at h
  refine ⟨?_, h.2⟩
  cases s with
  | nil => simp at h
  | cons x l => simp
theorem check_48 {l : List Lab} (h : checkB l = true) : small48 l := fun x hx => ⟨(name_48 (check_right h x hx).1).2, (value_48 (check_right h x hx).2).2⟩
/-- The labels that bytes are, as a key. -/
def ofL (s : Txt) : Option (List Lab) := match pairs (s.length + 1) s with
  | none => none
  | some l => if checkB l = true then some l else none
theorem key_len : ∀ (l : List Lab), l.length ≤ (keyL l).length
  | [] => Nat.le_refl _
  | x :: l => by
    have := key_len l
    have h2 := sm_pos 9 x.1.data.toList.length
    unfold keyL text small
    rw [List.length_append, List.length_append, List.length_append, List.length_append, List.length_cons]
    omega
theorem ofL_iff (s : Txt) (l : List Lab) : ofL s = some l ↔ checkB l = true ∧ keyL l = s := by
  constructor
  · intro h
    unfold ofL at h
    cases hp : pairs (s.length + 1) s with
    | none => rw [hp] at h; cases h
    | some m =>
      rw [hp] at h
      simp only [] at h
      split at h
      · rename_i hc
        injection h with h
        subst h
        exact ⟨hc, pairs_is _ _ _ (Nat.lt_succ_self _) hp⟩
      · cases h
  · rintro ⟨h1, h2⟩
    subst h2
    unfold ofL
    rw [pairs_key _ _ (check_48 h1) (by have := key_len l; omega)]
    simp only []
    rw [if_pos h1]
/-! ### As they are shown -/
def esc (v : Txt) : Txt := v.flatMap fun c => if c = 34 ∨ c = 92 then [92, c] else [c]
def one (x : Lab) : Txt := x.1.data.toList ++ (61 :: 34 :: (esc x.2.data.toList ++ [34]))
def shG : Nat → List Lab → Txt
  | _, [] => []
  | i, x :: l => (if 0 < i then [44] else []) ++ (one x ++ shG (i + 1) l)
def showL (l : List Lab) : Txt := 123 :: (shG 0 l ++ [125])
/-- A word up to a byte that ends it, and what is behind that. -/
def wd (e : UInt8) : Txt → Option (Txt × Txt)
  | [] => none
  | [c] => if c = e then some ([], []) else none
  | c :: d :: r => if c = e then some ([], d :: r) else if c = 92 then (wd e r).map fun p => (d :: p.1, p.2) else (wd e (d :: r)).map fun p => (c :: p.1, p.2)
/-- What is ahead of a byte, and what is behind it. -/
def ct (e : UInt8) : Txt → Option (Txt × Txt)
  | [] => none
  | c :: r => if c = e then some ([], r) else (ct e r).map fun p => (c :: p.1, p.2)
def labRd : Nat → Txt → Option (List Lab)
  | 0, _ => some []
  | f + 1, s => if s.length ≤ 1 then some [] else match ct 61 (s.drop 1) with
    | none => none
    | some (n, v) => match wd 34 (v.drop 1) with
      | none => none
      | some (x, b) => (labRd f b).map ((tx n, tx x) :: ·)
def refRd : Nat → Txt → Option (List Lab)
  | 0, _ => some []
  | f + 1, s => if s.length ≤ 1 then some [] else match wd 61 s with
    | none => none
    | some (n, a) => if a = [] then none else match wd 34 (a.drop 1) with
      | none => none
      | some (x, b) => if b = [] then none else (refRd f (b.drop 1)).map ((tx n, tx x) :: ·)
theorem wd_cons (e c : UInt8) (r : Txt) (h1 : c ≠ e) (h2 : c ≠ 92) : wd e (c :: r) = (wd e r).map fun p => (c :: p.1, p.2) := by
  cases r with
  | nil => simp [wd, h1]
  | cons d r => rw [wd, if_neg h1, if_neg h2]
theorem wd_end (e : UInt8) (r : Txt) : wd e (e :: r) = some ([], r) := by
  cases r with
  | nil => simp [wd]
  | cons d r => simp [wd]
theorem wd_back (e d : UInt8) (r : Txt) (h : (92 : UInt8) ≠ e) : wd e (92 :: d :: r) = (wd e r).map fun p => (d :: p.1, p.2) := by
  rw [wd, if_neg h, if_pos rfl]
theorem wd_esc (v r : Txt) : wd 34 (esc v ++ 34 :: r) = some (v, r) := by
  induction v with
  | nil => exact wd_end 34 r
  | cons c v ih =>
    have e : esc (c :: v) = (if c = 34 ∨ c = 92 then [92, c] else [c]) ++ esc v := by simp [esc]
    rw [e]
    by_cases h : c = 34 ∨ c = 92
    · rw [if_pos h]
      show wd 34 (92 :: c :: (esc v ++ 34 :: r)) = _
      rw [wd_back 34 c _ (by decide), ih]; rfl
    · rw [if_neg h]
      show wd 34 (c :: (esc v ++ 34 :: r)) = _
      rw [wd_cons 34 c _ (fun e => h (.inl e)) (fun e => h (.inr e)), ih]; rfl
def nmOk (s : Txt) : Prop := ∀ c ∈ s, c ≠ 61 ∧ c ≠ 92
theorem wd_name (n r : Txt) (h : nmOk n) : wd 61 (n ++ 61 :: r) = some (n, r) := by
  induction n with
  | nil => exact wd_end 61 r
  | cons c n ih =>
    have hc := h c List.mem_cons_self
    rw [List.cons_append, wd_cons 61 c _ hc.1 hc.2, ih (fun d hd => h d (List.mem_cons_of_mem _ hd))]; rfl
theorem ct_name (n r : Txt) (h : nmOk n) : ct 61 (n ++ 61 :: r) = some (n, r) := by
  induction n with
  | nil => simp [ct]
  | cons c n ih =>
    have hc := h c List.mem_cons_self
    rw [List.cons_append, ct, if_neg hc.1, ih (fun d hd => h d (List.mem_cons_of_mem _ hd))]; rfl
theorem nm_byte : ∀ c : Fin 256, ((decide (97 ≤ c.val) && decide (c.val ≤ 122) || decide (c.val = 95)) || (decide (48 ≤ c.val) && decide (c.val ≤ 57))) = true → c.val ≠ 61 ∧ c.val ≠ 92 := by decide +kernel
theorem name_ok {s : Txt} (h : nameB s = true) : nmOk s := by
  unfold nameB at h
  simp only [Bool.and_eq_true, List.all_eq_true] at h
  intro c hc
  have h1 := h.1.1.1 c hc
  have h2 := nm_byte ⟨c.toNat, c.toNat_lt⟩ h1
  exact ⟨fun e => h2.1 (by rw [e]; rfl), fun e => h2.2 (by rw [e]; rfl)⟩
def namesOk (l : List Lab) : Prop := ∀ x ∈ l, nmOk x.1.data.toList
theorem one_app (x : Lab) (r : Txt) : one x ++ r = x.1.data.toList ++ 61 :: (34 :: (esc x.2.data.toList ++ 34 :: r)) := by simp [one]
theorem labRd_show : ∀ (f i : Nat) (c : UInt8) (l : List Lab), namesOk l → l.length ≤ f → 0 < i → labRd f (shG i l ++ [125]) = some l
  | 0, i, c, [], _, _, _ => rfl
  | 0, i, c, x :: l, _, h, _ => by simp at h
  | f + 1, i, c, [], _, _, _ => rfl
  | f + 1, i, c, x :: l, hn, h, hi => by
    have e : shG i (x :: l) ++ [125] = 44 :: (one x ++ (shG (i + 1) l ++ [125])) := by rw [shG, if_pos hi]; simp
    rw [e, labRd, if_neg (by simp [one])]
    rw [show (44 :: (one x ++ (shG (i + 1) l ++ [125]))).drop 1 = x.1.data.toList ++ 61 :: (34 :: (esc x.2.data.toList ++ 34 :: (shG (i + 1) l ++ [125]))) from by rw [List.drop_succ_cons, List.drop_zero, one_app]]
    rw [ct_name _ _ (hn x List.mem_cons_self)]
    simp only [List.drop_succ_cons, List.drop_zero]
    rw [wd_esc]
    simp only []
    rw [labRd_show f (i + 1) c l (fun z hz => hn z (List.mem_cons_of_mem _ hz)) (by simpa using h) (Nat.succ_pos _)]
    rfl
theorem check_names {l : List Lab} (h : checkB l = true) : namesOk l := fun x hx => name_ok (check_right h x hx).1
theorem lab_show {l : List Lab} (h : checkB l = true) : labRd 7 (showL l) = some l := by
  obtain ⟨h1, h2⟩ := check_len h
  have hn := check_names h
  cases l with
  | nil => simp at h1
  | cons x l =>
    have e : showL (x :: l) = 123 :: (one x ++ (shG 1 l ++ [125])) := by unfold showL; rw [shG, if_neg (by omega)]; simp
    rw [e, labRd, if_neg (by simp [one])]
    rw [show (123 :: (one x ++ (shG 1 l ++ [125]))).drop 1 = x.1.data.toList ++ 61 :: (34 :: (esc x.2.data.toList ++ 34 :: (shG 1 l ++ [125]))) from by rw [List.drop_succ_cons, List.drop_zero, one_app]]
    rw [ct_name _ _ (hn x List.mem_cons_self)]
    simp only [List.drop_succ_cons, List.drop_zero]
    rw [wd_esc]
    simp only []
    rw [labRd_show 6 1 0 l (fun z hz => hn z (List.mem_cons_of_mem _ hz)) (by simp at h2; omega) (by omega)]
    rfl
theorem refRd_show : ∀ (f i : Nat) (l : List Lab), namesOk l → l.length ≤ f → refRd f ((shG i l ++ [125]).drop 1) = some l ∨ l = [] ∨ i = 0
  | f, 0, _, _, _ => .inr (.inr rfl)
  | _, _ + 1, [], _, _ => .inr (.inl rfl)
  | 0, _ + 1, _ :: _, _, h => by simp at h
  | f + 1, i + 1, x :: l, hn, h => by
    left
    have e : (shG (i + 1) (x :: l) ++ [125]).drop 1 = x.1.data.toList ++ 61 :: (34 :: (esc x.2.data.toList ++ 34 :: (shG (i + 1 + 1) l ++ [125]))) := by rw [shG, if_pos (by omega), ← one_app]; simp
    rw [e, refRd, if_neg (by simp; omega), wd_name _ _ (hn x List.mem_cons_self)]
    simp only [List.drop_succ_cons, List.drop_zero]
    rw [if_neg (by simp), wd_esc]
    simp only []
    rw [if_neg (by simp)]
    cases l with
    | nil =>
      have : refRd f ((shG (i + 1 + 1) [] ++ [125]).drop 1) = some [] := by
        cases f with
        | zero => rfl
        | succ f => rfl
      rw [this]; rfl
    | cons y l =>
      rcases refRd_show f (i + 1 + 1) (y :: l) (fun z hz => hn z (List.mem_cons_of_mem _ hz)) (by simpa using h) with h' | h' | h'
      · rw [h']; rfl
      · cases h'
      · cases h'
theorem shG_pos : ∀ (l : List Lab) (i j : Nat), 0 < i → 0 < j → shG i l = shG j l
  | [], _, _, _, _ => rfl
  | x :: l, i, j, hi, hj => by rw [shG, shG, if_pos hi, if_pos hj, shG_pos l (i + 1) (j + 1) (Nat.succ_pos _) (Nat.succ_pos _)]
theorem ref_show {l : List Lab} (h : checkB l = true) : refRd 7 ((showL l).drop 1) = some l := by
  obtain ⟨h1, h2⟩ := check_len h
  have hn := check_names h
  cases l with
  | nil => simp at h1
  | cons x l =>
    have e : (showL (x :: l)).drop 1 = (shG 1 (x :: l) ++ [125]).drop 1 := by unfold showL; rw [shG, shG, shG_pos l (1 + 1) (0 + 1) (by omega) (by omega)]; simp
    rw [e]
    rcases refRd_show 7 1 (x :: l) hn (by omega) with h' | h' | h'
    · exact h'
    · cases h'
    · cases h'
/-- The labels that are shown so, as the program reads them, and as the document does. -/
def readA (s : Txt) : Option (List Lab) := match labRd 7 s with
  | none => none
  | some l => if checkB l = true ∧ showL l = s then some l else none
def readB (s : Txt) : Option (List Lab) := if s = [] then none else match refRd 7 (s.drop 1) with
  | none => none
  | some l => if checkB l = true ∧ showL l = s then some l else none
theorem readA_iff (s : Txt) (l : List Lab) : readA s = some l ↔ checkB l = true ∧ showL l = s := by
  unfold readA
  constructor
  · intro h
    cases hp : labRd 7 s with
    | none => rw [hp] at h; cases h
    | some m =>
      rw [hp] at h
      simp only [] at h
      split at h
      · rename_i hc; injection h with h; subst h; exact hc
      · cases h
  · rintro ⟨h1, h2⟩
    subst h2
    rw [lab_show h1]
    simp only []
    rw [if_pos ⟨h1, trivial⟩]
theorem readB_iff (s : Txt) (l : List Lab) : readB s = some l ↔ checkB l = true ∧ showL l = s := by
  unfold readB
  constructor
  · intro h
    split at h
    · cases h
    cases hp : refRd 7 (s.drop 1) with
    | none => rw [hp] at h; cases h
    | some m =>
      rw [hp] at h
      simp only [] at h
      split at h
      · rename_i hc; injection h with h; subst h; exact hc
      · cases h
  · rintro ⟨h1, h2⟩
    subst h2
    rw [if_neg (by unfold showL; simp), ref_show h1]
    simp only []
    rw [if_pos ⟨h1, trivial⟩]
theorem read_same (s : Txt) : readA s = readB s := by
  cases h : readA s with
  | some l => exact ((readB_iff s l).2 ((readA_iff s l).1 h)).symm
  | none =>
    cases h2 : readB s with
    | none => rfl
    | some l => rw [(readA_iff s l).2 ((readB_iff s l).1 h2)] at h; cases h
end Go.Proofs.Ytdjgndnllaingaa.LbM
