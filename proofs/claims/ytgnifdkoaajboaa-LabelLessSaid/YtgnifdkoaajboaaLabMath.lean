/-
  THE PLAIN LAW OF LABELS: no program is in sight here. Texts are lists of bytes.
-/
namespace Go.Proofs.Ytgnifdkoaajboaa.LabM
abbrev Txt := List UInt8
/-- A label: its name, its value. -/
abbrev Lab := ByteArray × ByteArray
def digitB (c : UInt8) : Bool := decide (48 ≤ c.toNat) && decide (c.toNat ≤ 57)
def lowB (c : UInt8) : Bool := decide (97 ≤ c.toNat) && decide (c.toNat ≤ 122) || decide (c.toNat = 95)
def shownB (c : UInt8) : Bool := decide (32 ≤ c.toNat) && decide (c.toNat ≤ 126)
/-- What a byte may be: 4 in a value, 2 in a name, 1 at a name's beginning. -/
def maskN (c : Nat) : Nat := if 97 ≤ c ∧ c ≤ 122 ∨ c = 95 then 7 else if 48 ≤ c ∧ c ≤ 57 then 6 else if 32 ≤ c ∧ c ≤ 126 then 4 else 0
/-- May each byte of it be so? -/
def allM (s : Txt) (m : Nat) : Bool := s.all (fun c => maskN c.toNat &&& m != 0) && !s.isEmpty && decide (s.length ≤ 48)
def nameB (s : Txt) : Bool := s.all (fun c => lowB c || digitB c) && !s.isEmpty && decide (s.length ≤ 48) && !(s.take 1).all digitB
def valueB (s : Txt) : Bool := s.all shownB && !s.isEmpty && decide (s.length ≤ 48)
theorem mask_one : ∀ c : Fin 256, (maskN c &&& 1 != 0) = (decide (97 ≤ c.val) && decide (c.val ≤ 122) || decide (c.val = 95)) := by decide +kernel
theorem mask_two : ∀ c : Fin 256, (maskN c &&& 2 != 0) = ((decide (97 ≤ c.val) && decide (c.val ≤ 122) || decide (c.val = 95)) || (decide (48 ≤ c.val) && decide (c.val ≤ 57))) := by decide +kernel
theorem mask_four : ∀ c : Fin 256, (maskN c &&& 4 != 0) = (decide (32 ≤ c.val) && decide (c.val ≤ 126)) := by decide +kernel
theorem mask1 (c : UInt8) : (maskN c.toNat &&& 1 != 0) = lowB c := mask_one ⟨c.toNat, c.toNat_lt⟩
theorem mask2 (c : UInt8) : (maskN c.toNat &&& 2 != 0) = (lowB c || digitB c) := mask_two ⟨c.toNat, c.toNat_lt⟩
theorem mask4 (c : UInt8) : (maskN c.toNat &&& 4 != 0) = shownB c := mask_four ⟨c.toNat, c.toNat_lt⟩
theorem lowB_not_digit (c : UInt8) (h : lowB c = true) : digitB c = false := by
  have : ∀ c : Fin 256, (decide (97 ≤ c.val) && decide (c.val ≤ 122) || decide (c.val = 95)) = true → (decide (48 ≤ c.val) && decide (c.val ≤ 57)) = false := by decide +kernel
  exact this ⟨c.toNat, c.toNat_lt⟩ h
/-- A name, as the program looks at it. -/
theorem name_of_masks (s : Txt) : (allM s 2 && allM (s.take 1) 1) = nameB s := by
  unfold allM nameB
  simp only [mask1, mask2]
  cases s with
  | nil => rfl
  | cons c s =>
    simp only [List.take_succ_cons, List.take_zero, List.all_cons, List.all_nil, List.isEmpty_cons, Bool.and_true, Bool.not_false, List.length_cons, List.length_nil]
    simp only [Nat.zero_add, show decide (1 ≤ 48) = true from rfl, Bool.and_true]
    by_cases h : lowB c = true
    · rw [h, lowB_not_digit c h]; simp
    · have h' : lowB c = false := by simpa using h
      rw [h']
      cases digitB c <;> simp
theorem value_of_masks (s : Txt) : allM s 4 = valueB s := by
  unfold allM valueB
  simp only [mask4]
/-- Byte by byte ahead of another one. -/
def ltB : Txt → Txt → Bool
  | [], [] => false
  | [], _ :: _ => true
  | _ :: _, [] => false
  | a :: s, b :: t => if a = b then ltB s t else decide (a.toNat < b.toNat)
theorem ltB_irrefl (a : Txt) : ltB a a = false := by
  induction a with
  | nil => rfl
  | cons x a ih => simp [ltB, ih]
theorem ltB_tri (a b : Txt) : (!ltB a b && !(a == b)) = ltB b a := by
  induction a generalizing b with
  | nil => cases b <;> rfl
  | cons x a ih =>
    cases b with
    | nil => rfl
    | cons y b =>
      unfold ltB
      by_cases h : x = y
      · subst h
        simp only [if_true]
        rw [← ih b]
        simp
      · have h' : ¬ y = x := fun e => h e.symm
        rw [if_neg h, if_neg h']
        have hb : ((x :: a) == (y :: b)) = false := by simp [h]
        rw [hb]
        have hn : x.toNat ≠ y.toNat := fun e => h (UInt8.toNat_inj.1 e)
        rw [Bool.eq_iff_iff]
        simp
        omega
theorem ltB_trans {a b c : Txt} (h1 : ltB a b = true) (h2 : ltB b c = true) : ltB a c = true := by
  induction a generalizing b c with
  | nil =>
    cases b with
    | nil => cases h1
    | cons y b =>
      cases c with
      | nil => cases h2
      | cons z c => rfl
  | cons x a ih =>
    cases b with
    | nil => cases h1
    | cons y b =>
      cases c with
      | nil => cases h2
      | cons z c =>
        unfold ltB at h1 h2 ⊢
        by_cases e1 : x = y
        · subst e1
          rw [if_pos rfl] at h1
          by_cases e2 : x = z
          · subst e2
            rw [if_pos rfl] at h2 ⊢
            exact ih h1 h2
          · rw [if_neg e2] at h2 ⊢
            exact h2
        · rw [if_neg e1] at h1
          by_cases e2 : y = z
          · subst e2
            rw [if_neg e1]; exact h1
          · rw [if_neg e2] at h2
            have a1 := of_decide_eq_true h1
            have a2 := of_decide_eq_true h2
            have e3 : x ≠ z := by intro e; subst e; omega
            rw [if_neg e3]
            exact decide_eq_true (by omega)
/-! How the table comes to be. -/
def st1 (k i : Nat) : Nat := if 32 ≤ i ∧ i < k then 4 else 0
def st2 (k i : Nat) : Nat := if 48 ≤ i ∧ i < k then 6 else st1 127 i
def st3 (k i : Nat) : Nat := if 97 ≤ i ∧ i < k then 7 else st2 58 i
theorem st1_step (k i : Nat) (h : 32 ≤ k) : st1 (k + 1) i = if i = k then 4 else st1 k i := by
  unfold st1; split <;> split <;> (try split) <;> omega
theorem st2_step (k i : Nat) (h : 48 ≤ k) : st2 (k + 1) i = if i = k then 6 else st2 k i := by
  unfold st2; split <;> split <;> (try split) <;> omega
theorem st3_step (k i : Nat) (h : 97 ≤ k) : st3 (k + 1) i = if i = k then 7 else st3 k i := by
  unfold st3; split <;> split <;> (try split) <;> omega
theorem st1_0 (i : Nat) : st1 32 i = 0 := by unfold st1; split <;> omega
theorem st2_0 (i : Nat) : st2 48 i = st1 127 i := by unfold st2; split <;> omega
theorem st3_0 (i : Nat) : st3 97 i = st2 58 i := by unfold st3; split <;> omega
theorem st1_at (k : Nat) : st1 k k = 0 := by unfold st1; split <;> omega
theorem st2_at (k : Nat) (h : 48 ≤ k) (h2 : k < 58) : st2 k k = 4 := by
  unfold st2 st1; split
  · omega
  · split <;> omega
theorem st3_at (k : Nat) (h : 97 ≤ k) (h2 : k < 123) : st3 k k = 4 := by
  unfold st3 st2 st1; split
  · omega
  · split
    · omega
    · split <;> omega
theorem st_fin (i : Nat) : (if i = 95 then 7 else st3 123 i) = maskN i := by
  unfold st3 st2 st1 maskN
  repeat' split
  all_goals omega
/-- May labels be, behind one of that name? -/
def chkL : Txt → List Lab → Bool
  | _, [] => true
  | last, x :: l => ltB last x.1.data.toList && nameB x.1.data.toList && valueB x.2.data.toList && chkL x.1.data.toList l
def checkB (l : List Lab) : Bool := chkL [] l && !l.isEmpty && decide (l.length ≤ 6)
theorem chkL_at (l : List Lab) (last : Txt) (k : Nat) (h : k < l.length) : chkL last (l.drop k) = (ltB last l[k].1.data.toList && nameB l[k].1.data.toList && valueB l[k].2.data.toList && chkL l[k].1.data.toList (l.drop (k + 1))) := by
  rw [List.drop_eq_getElem_cons h, chkL]
theorem chkL_end (l : List Lab) (last : Txt) (k : Nat) (h : l.length ≤ k) : chkL last (l.drop k) = true := by
  rw [List.drop_of_length_le h]; rfl
/-- An error's number: none where it is so. -/
def errN (b : Bool) (n : Int) : Int := if b then 0 else n
theorem errN_true (n : Int) : errN true n = 0 := rfl
theorem errN_false (n : Int) : errN false n = n := rfl
/-- The value of a name. -/
def getL : List Lab → ByteArray → ByteArray
  | [], _ => ByteArray.empty
  | x :: l, nm => if (x.1.toList == nm.toList) = true then x.2 else getL l nm
theorem getL_at (l : List Lab) (nm : ByteArray) (k : Nat) (h : k < l.length) : getL (l.drop k) nm = if (l[k].1.toList == nm.toList) = true then l[k].2 else getL (l.drop (k + 1)) nm := by
  rw [List.drop_eq_getElem_cons h, getL]
theorem getL_end (l : List Lab) (nm : ByteArray) (k : Nat) (h : l.length ≤ k) : getL (l.drop k) nm = ByteArray.empty := by
  rw [List.drop_of_length_le h]; rfl
end Go.Proofs.Ytgnifdkoaajboaa.LabM
