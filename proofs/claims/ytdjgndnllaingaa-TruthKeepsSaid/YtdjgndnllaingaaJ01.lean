/-
  THE PLAIN LAW OF LABELS: no program is in sight here. Texts are lists of bytes.
  THE PLAIN LAW OF THE CHECK (crc): no program is in sight here. A check of 32 bits, turned bit by bit; its table of halves; that it is linear, and that each turn can be turned back.
-/
/-
  THE PLAIN LAW OF LABELS: no program is in sight here. Texts are lists of bytes.
-/
namespace Go.Proofs.Ytdjgndnllaingaa.LabM
abbrev Txt := List UInt8
/-- A label: its name, its value. -/
abbrev Lab := ByteArray × ByteArray
def digitB (c : UInt8) : Bool := decide (48 ≤ c.toNat) && decide (c.toNat ≤ 57)
def lowB (c : UInt8) : Bool := decide (97 ≤ c.toNat) && decide (c.toNat ≤ 122) || decide (c.toNat = 95)
def shownB (c : UInt8) : Bool := decide (32 ≤ c.toNat) && decide (c.toNat ≤ 126)
/-- What a byte may be: 4 in a value, 2 in a name, 1 at a name's beginning. -/
def maskN (c : Nat) : Nat := if 97 ≤ c ∧ c ≤ 122 ∨ c = 95 then 7 else if 48 ≤ c ∧ c ≤ 57 then 6 else if 32 ≤ c ∧ c ≤ 126 then 4 else 0
/-- May each byte of it be so? -/
def allM (s : Txt) (m : Nat) : Bool := s.all (fun c => maskN c.toNat &&& m != 0) && !s.isEmpty && decide (s.length ≤ 48)
def nameB (s : Txt) : Bool := s.all (fun c => lowB c || digitB c) && !s.isEmpty && decide (s.length ≤ 48) && !(s.take 1).all digitB
def valueB (s : Txt) : Bool := s.all shownB && !s.isEmpty && decide (s.length ≤ 48)
theorem mask_one : ∀ c : Fin 256, (maskN c &&& 1 != 0) = (decide (97 ≤ c.val) && decide (c.val ≤ 122) || decide (c.val = 95)) := by decide +kernel
theorem mask_two : ∀ c : Fin 256, (maskN c &&& 2 != 0) = ((decide (97 ≤ c.val) && decide (c.val ≤ 122) || decide (c.val = 95)) || (decide (48 ≤ c.val) && decide (c.val ≤ 57))) := by decide +kernel
theorem mask_four : ∀ c : Fin 256, (maskN c &&& 4 != 0) = (decide (32 ≤ c.val) && decide (c.val ≤ 126)) := by decide +kernel
theorem mask1 (c : UInt8) : (maskN c.toNat &&& 1 != 0) = lowB c := mask_one ⟨c.toNat, c.toNat_lt⟩
theorem mask2 (c : UInt8) : (maskN c.toNat &&& 2 != 0) = (lowB c || digitB c) := mask_two ⟨c.toNat, c.toNat_lt⟩
theorem mask4 (c : UInt8) : (maskN c.toNat &&& 4 != 0) = shownB c := mask_four ⟨c.toNat, c.toNat_lt⟩
theorem lowB_not_digit (c : UInt8) (h : lowB c = true) : digitB c = false := by
  have : ∀ c : Fin 256, (decide (97 ≤ c.val) && decide (c.val ≤ 122) || decide (c.val = 95)) = true → (decide (48 ≤ c.val) && decide (c.val ≤ 57)) = false := by decide +kernel
  exact this ⟨c.toNat, c.toNat_lt⟩ h
/-- A name, as the program looks at it. -/
theorem name_of_masks (s : Txt) : (allM s 2 && allM (s.take 1) 1) = nameB s := by
  unfold allM nameB
  simp only [mask1, mask2]
  cases s with
  | nil => rfl
  | cons c s =>
    simp only [List.take_succ_cons, List.take_zero, List.all_cons, List.all_nil, List.isEmpty_cons, Bool.and_true, Bool.not_false, List.length_cons, List.length_nil]
    simp only [Nat.zero_add, show decide (1 ≤ 48) = true from rfl, Bool.and_true]
    by_cases h : lowB c = true
    · rw [h, lowB_not_digit c h]; simp
    · have h' : lowB c = false := by simpa using h
      rw [h']
      cases digitB c <;> simp
theorem value_of_masks (s : Txt) : allM s 4 = valueB s := by
  unfold allM valueB
  simp only [mask4]
/-- Byte by byte ahead of another one. -/
def ltB : Txt → Txt → Bool
  | [], [] => false
  | [], _ :: _ => true
  | _ :: _, [] => false
  | a :: s, b :: t => if a = b then ltB s t else decide (a.toNat < b.toNat)
theorem ltB_irrefl (a : Txt) : ltB a a = false := by
  induction a with
  | nil => rfl
  | cons x a ih => simp [ltB, ih]
theorem ltB_tri (a b : Txt) : (!ltB a b && !(a == b)) = ltB b a := by
  induction a generalizing b with
  | nil => cases b <;> rfl
  | cons x a ih =>
    cases b with
    | nil => rfl
    | cons y b =>
      unfold ltB
      by_cases h : x = y
      · subst h
        simp only [if_true]
        rw [← ih b]
        simp
      · have h' : ¬ y = x := fun e => h e.symm
        rw [if_neg h, if_neg h']
        have hb : ((x :: a) == (y :: b)) = false := by simp [h]
        rw [hb]
        have hn : x.toNat ≠ y.toNat := fun e => h (UInt8.toNat_inj.1 e)
        rw [Bool.eq_iff_iff]
        simp
        omega
theorem ltB_trans {a b c : Txt} (h1 : ltB a b = true) (h2 : ltB b c = true) : ltB a c = true := by
  induction a generalizing b c with
  | nil =>
    cases b with
    | nil => cases h1
    | cons y b =>
      cases c with
      | nil => cases h2
      | cons z c => rfl
  | cons x a ih =>
    cases b with
    | nil => cases h1
    | cons y b =>
      cases c with
      | nil => cases h2
      | cons z c =>
        unfold ltB at h1 h2 ⊢
        by_cases e1 : x = y
        · subst e1
          rw [if_pos rfl] at h1
          by_cases e2 : x = z
          · subst e2
            rw [if_pos rfl] at h2 ⊢
            exact ih h1 h2
          · rw [if_neg e2] at h2 ⊢
            exact h2
        · rw [if_neg e1] at h1
          by_cases e2 : y = z
          · subst e2
            rw [if_neg e1]; exact h1
          · rw [if_neg e2] at h2
            have a1 := of_decide_eq_true h1
            have a2 := of_decide_eq_true h2
            have e3 : x ≠ z := by intro e; subst e; omega
            rw [if_neg e3]
            exact decide_eq_true (by omega)
/-! How the table comes to be. -/
def st1 (k i : Nat) : Nat := if 32 ≤ i ∧ i < k then 4 else 0
def st2 (k i : Nat) : Nat := if 48 ≤ i ∧ i < k then 6 else st1 127 i
def st3 (k i : Nat) : Nat := if 97 ≤ i ∧ i < k then 7 else st2 58 i
theorem st1_step (k i : Nat) (h : 32 ≤ k) : st1 (k + 1) i = if i = k then 4 else st1 k i := by
  unfold st1; split <;> split <;> (try split) <;> omega
theorem st2_step (k i : Nat) (h : 48 ≤ k) : st2 (k + 1) i = if i = k then 6 else st2 k i := by
  unfold st2; split <;> split <;> (try split) <;> omega
theorem st3_step (k i : Nat) (h : 97 ≤ k) : st3 (k + 1) i = if i = k then 7 else st3 k i := by
  unfold st3; split <;> split <;> (try split) <;> omega
theorem st1_0 (i : Nat) : st1 32 i = 0 := by unfold st1; split <;> omega
theorem st2_0 (i : Nat) : st2 48 i = st1 127 i := by unfold st2; split <;> omega
theorem st3_0 (i : Nat) : st3 97 i = st2 58 i := by unfold st3; split <;> omega
theorem st1_at (k : Nat) : st1 k k = 0 := by unfold st1; split <;> omega
theorem st2_at (k : Nat) (h : 48 ≤ k) (h2 : k < 58) : st2 k k = 4 := by
  unfold st2 st1; split
  · omega
  · split <;> omega
theorem st3_at (k : Nat) (h : 97 ≤ k) (h2 : k < 123) : st3 k k = 4 := by
  unfold st3 st2 st1; split
  · omega
  · split
    · omega
    · split <;> omega
theorem st_fin (i : Nat) : (if i = 95 then 7 else st3 123 i) = maskN i := by
  unfold st3 st2 st1 maskN
  repeat' split
  all_goals omega
/-- May labels be, behind one of that name? -/
def chkL : Txt → List Lab → Bool
  | _, [] => true
  | last, x :: l => ltB last x.1.data.toList && nameB x.1.data.toList && valueB x.2.data.toList && chkL x.1.data.toList l
def checkB (l : List Lab) : Bool := chkL [] l && !l.isEmpty && decide (l.length ≤ 6)
theorem chkL_at (l : List Lab) (last : Txt) (k : Nat) (h : k < l.length) : chkL last (l.drop k) = (ltB last l[k].1.data.toList && nameB l[k].1.data.toList && valueB l[k].2.data.toList && chkL l[k].1.data.toList (l.drop (k + 1))) := by
  rw [List.drop_eq_getElem_cons h, chkL]
theorem chkL_end (l : List Lab) (last : Txt) (k : Nat) (h : l.length ≤ k) : chkL last (l.drop k) = true := by
  rw [List.drop_of_length_le h]; rfl
/-- An error's number: none where it is so. -/
def errN (b : Bool) (n : Int) : Int := if b then 0 else n
theorem errN_true (n : Int) : errN true n = 0 := rfl
theorem errN_false (n : Int) : errN false n = n := rfl
/-- The value of a name. -/
def getL : List Lab → ByteArray → ByteArray
  | [], _ => ByteArray.empty
  | x :: l, nm => if (x.1.toList == nm.toList) = true then x.2 else getL l nm
theorem getL_at (l : List Lab) (nm : ByteArray) (k : Nat) (h : k < l.length) : getL (l.drop k) nm = if (l[k].1.toList == nm.toList) = true then l[k].2 else getL (l.drop (k + 1)) nm := by
  rw [List.drop_eq_getElem_cons h, getL]
theorem getL_end (l : List Lab) (nm : ByteArray) (k : Nat) (h : l.length ≤ k) : getL (l.drop k) nm = ByteArray.empty := by
  rw [List.drop_of_length_le h]; rfl
end Go.Proofs.Ytdjgndnllaingaa.LabM
/-
  THE PLAIN LAW OF THE CHECK (crc): no program is in sight here. A check of 32 bits, turned bit by bit; its table of halves; that it is linear, and that each turn can be turned back.
-/
namespace Go.Proofs.Ytdjgndnllaingaa.CrcM
def poly : BitVec 32 := 2197175160#32
def tstep (c : BitVec 32) : BitVec 32 := if c.getLsbD 0 then (c >>> 1) ^^^ poly else c >>> 1
def tsteps : Nat → BitVec 32 → BitVec 32
  | 0, c => c
  | n + 1, c => tstep (tsteps n c)
theorem tsteps_add (m n : Nat) (c : BitVec 32) : tsteps (m + n) c = tsteps n (tsteps m c) := by
  induction n with
  | zero => rfl
  | succ n ih => show tstep (tsteps (m + n) c) = tstep (tsteps n (tsteps m c)); rw [ih]
theorem tstep_xor (a b : BitVec 32) : tstep (a ^^^ b) = tstep a ^^^ tstep b := by
  unfold tstep
  have h : (a ^^^ b).getLsbD 0 = (a.getLsbD 0 ^^ b.getLsbD 0) := by simp
  rw [h]
  cases a.getLsbD 0 <;> cases b.getLsbD 0 <;> simp [BitVec.ushiftRight_xor_distrib]
  · rw [BitVec.xor_assoc]
  · rw [BitVec.xor_assoc, BitVec.xor_comm (b >>> 1) poly, BitVec.xor_assoc]
  · rw [BitVec.xor_assoc, BitVec.xor_comm poly, BitVec.xor_assoc]; simp
theorem tsteps_xor (n : Nat) (a b : BitVec 32) : tsteps n (a ^^^ b) = tsteps n a ^^^ tsteps n b := by
  induction n with
  | zero => rfl
  | succ n ih => show tstep _ = _; rw [ih, tstep_xor]; rfl
def unstep (d : BitVec 32) : BitVec 32 := if d.getLsbD 31 then ((d ^^^ poly) <<< 1) ||| 1#32 else d <<< 1
theorem unstep_tstep (c : BitVec 32) : unstep (tstep c) = c := by
  unfold tstep unstep
  by_cases h : c.getLsbD 0 = true
  · rw [if_pos h]
    have e : ((c >>> 1) ^^^ poly).getLsbD 31 = true := by simp [poly]
    rw [if_pos e, BitVec.xor_assoc, BitVec.xor_self, BitVec.xor_zero]
    apply BitVec.eq_of_getLsbD_eq
    intro i hi
    by_cases h0 : i = 0
    · subst h0; simp [h]
    · have e1 : 1 + (i - 1) = i := by omega
      simp [h0, hi, e1]
  · rw [if_neg h]
    have e : ¬ (c >>> 1).getLsbD 31 = true := by simp
    rw [if_neg e]
    apply BitVec.eq_of_getLsbD_eq
    intro i hi
    by_cases h0 : i = 0
    · subst h0; simpa using h
    · have e1 : 1 + (i - 1) = i := by omega
      simp [h0, hi, e1]
theorem tstep_inj {a b : BitVec 32} (h : tstep a = tstep b) : a = b := by rw [← unstep_tstep a, h, unstep_tstep]
theorem tsteps_inj {n : Nat} {a b : BitVec 32} (h : tsteps n a = tsteps n b) : a = b := by
  induction n with
  | zero => exact h
  | succ n ih => exact ih (tstep_inj h)
theorem tstep_even (c : BitVec 32) (h : c.getLsbD 0 = false) : tstep c = c >>> 1 := by unfold tstep; rw [h]; rfl
/-- Bits 0 behind fall out one by one. -/
theorem tsteps_shift (n : Nat) (c : BitVec 32) (h : ∀ i, i < n → c.getLsbD i = false) : tsteps n c = c >>> n := by
  induction n with
  | zero => simp [tsteps]
  | succ n ih =>
    show tstep (tsteps n c) = _
    rw [ih (fun i hi => h i (by omega)), tstep_even _ (by simpa using h n (by omega))]
    rw [← BitVec.shiftRight_add]
def half (i : BitVec 32) : BitVec 32 := tsteps 4 i
theorem nibble (c : BitVec 32) : tsteps 4 c = half (c &&& 15#32) ^^^ (c >>> 4) := by
  have e : c = (c &&& 15#32) ^^^ (c &&& 4294967280#32) := by
    have h1 : ∀ j : Fin 32, (15#32 : BitVec 32).getLsbD j.val = !(4294967280#32 : BitVec 32).getLsbD j.val := by decide
    apply BitVec.eq_of_getLsbD_eq
    intro i hi
    rw [BitVec.getLsbD_xor, BitVec.getLsbD_and, BitVec.getLsbD_and, h1 ⟨i, hi⟩]
    cases c.getLsbD i <;> cases (4294967280#32 : BitVec 32).getLsbD i <;> rfl
  conv => lhs; rw [e, tsteps_xor]
  unfold half
  congr 1
  rw [tsteps_shift 4]
  · apply BitVec.eq_of_getLsbD_eq
    intro i hi
    simp
    intro h1
    have hlt : i + 4 < 32 := by
      rcases Nat.lt_or_ge (4 + i) 32 with h | h
      · omega
      · rw [BitVec.getLsbD_of_ge _ _ h] at h1; cases h1
    have : ∀ j : Fin 28, (4294967280#32).getLsbD (4 + j.val) = true := by decide
    exact this ⟨i, by omega⟩
  · intro i hi
    have : ∀ j : Fin 4, (4294967280#32).getLsbD j.val = false := by decide
    simp [this ⟨i, hi⟩]
/-- One byte. -/
def byteStep (c : BitVec 32) (b : UInt8) : BitVec 32 := tsteps 8 (c ^^^ BitVec.ofNat 32 b.toNat)
def crun (c : BitVec 32) (l : List UInt8) : BitVec 32 := l.foldl byteStep c
theorem crun_append (c : BitVec 32) (a b : List UInt8) : crun c (a ++ b) = crun (crun c a) b := by simp [crun]
theorem crun_snoc (c : BitVec 32) (a : List UInt8) (x : UInt8) : crun c (a ++ [x]) = byteStep (crun c a) x := by simp [crun]
def con (c : BitVec 32) (l : List UInt8) : BitVec 32 := ~~~ (crun (~~~ c) l)
def cof (l : List UInt8) : BitVec 32 := con 0#32 l
theorem on_append (c : BitVec 32) (a b : List UInt8) : con c (a ++ b) = con (con c a) b := by
  unfold con; rw [crun_append, BitVec.not_not]
theorem on_nil (c : BitVec 32) : con c [] = c := by simp [con, crun]
/-- The lowest first. -/
def cbytes (c : BitVec 32) : List UInt8 :=
  [UInt8.ofNat (c.toNat % 256), UInt8.ofNat (c.toNat / 256 % 256), UInt8.ofNat (c.toNat / 65536 % 256), UInt8.ofNat (c.toNat / 16777216 % 256)]
def ctail (l : List UInt8) : List UInt8 := cbytes (cof l)
theorem ctail_length (l : List UInt8) : (ctail l).length = 4 := rfl
def cword (a b c d : UInt8) : BitVec 32 := BitVec.ofNat 32 (a.toNat + 256 * b.toNat + 65536 * c.toNat + 16777216 * d.toNat)
theorem word_bytes (c : BitVec 32) : cword (UInt8.ofNat (c.toNat % 256)) (UInt8.ofNat (c.toNat / 256 % 256)) (UInt8.ofNat (c.toNat / 65536 % 256)) (UInt8.ofNat (c.toNat / 16777216 % 256)) = c := by
  have hc := c.isLt
  apply BitVec.eq_of_toNat_eq
  simp [cword]
  omega
theorem cbytes_inj {c d : BitVec 32} (h : cbytes c = cbytes d) : c = d := by
  simp only [cbytes, List.cons.injEq, and_true] at h
  obtain ⟨h1, h2, h3, h4⟩ := h
  rw [← word_bytes c, ← word_bytes d, h1, h2, h3, h4]
theorem word_inj {a b c d a' b' c' d' : UInt8} (h : cword a b c d = cword a' b' c' d') : a = a' ∧ b = b' ∧ c = c' ∧ d = d' := by
  have h' := congrArg BitVec.toNat h
  simp [cword] at h'
  have := a.toNat_lt; have := b.toNat_lt; have := c.toNat_lt; have := d.toNat_lt
  have := a'.toNat_lt; have := b'.toNat_lt; have := c'.toNat_lt; have := d'.toNat_lt
  refine ⟨?_, ?_, ?_, ?_⟩ <;> apply UInt8.toNat_inj.1 <;> omega
theorem tsteps8_up (b : UInt8) : tsteps 8 (BitVec.ofNat 32 b.toNat <<< 8) = BitVec.ofNat 32 b.toNat := by
  rw [tsteps_shift]
  · have := b.toNat_lt
    apply BitVec.eq_of_toNat_eq
    simp [Nat.shiftLeft_eq, Nat.shiftRight_eq_div_pow]
    omega
  · intro i hi; simp [hi]
theorem fold_byte (n : Nat) (c : BitVec 32) (b : UInt8) : tsteps n (tsteps 8 c ^^^ BitVec.ofNat 32 b.toNat) = tsteps (8 + n) (c ^^^ BitVec.ofNat 32 b.toNat <<< 8) := by
  rw [tsteps_add, tsteps_xor 8, tsteps8_up]
theorem tsteps8_lo (n : Nat) (s : BitVec 32) (b : UInt8) : tsteps n (byteStep s b) = tsteps (8 + n) (s ^^^ BitVec.ofNat 32 b.toNat) := by
  unfold byteStep; rw [tsteps_add]
theorem up8 (b : UInt8) (k n : Nat) (hk : k ≤ 24) : tsteps (k + n) (BitVec.ofNat 32 b.toNat <<< k) = tsteps n (BitVec.ofNat 32 b.toNat) := by
  have e : tsteps k (BitVec.ofNat 32 b.toNat <<< k) = BitVec.ofNat 32 b.toNat := by
    rw [tsteps_shift]
    · have := b.toNat_lt
      apply BitVec.eq_of_toNat_eq
      have h2 : 2 ^ k ≤ 2 ^ 24 := Nat.pow_le_pow_right (by omega) hk
      have h3 : b.toNat * 2 ^ k < 4294967296 := by
        have := Nat.mul_le_mul (show b.toNat ≤ 255 by omega) h2
        omega
      have h4 : b.toNat % 4294967296 = b.toNat := Nat.mod_eq_of_lt (by omega)
      simp [Nat.shiftLeft_eq, Nat.shiftRight_eq_div_pow, h4, Nat.mod_eq_of_lt h3, Nat.mul_div_cancel _ (Nat.two_pow_pos k)]
    · intro i hi; simp [hi]
  rw [tsteps_add, e]
def wordx (a b c d : UInt8) : BitVec 32 := BitVec.ofNat 32 a.toNat ^^^ BitVec.ofNat 32 b.toNat <<< 8 ^^^ BitVec.ofNat 32 c.toNat <<< 16 ^^^ BitVec.ofNat 32 d.toNat <<< 24
theorem crun_four (s : BitVec 32) (a b c d : UInt8) : crun s [a, b, c, d] = tsteps 32 (s ^^^ wordx a b c d) := by
  show byteStep (byteStep (byteStep (byteStep s a) b) c) d = _
  have h1 : byteStep (byteStep (byteStep (byteStep s a) b) c) d = tsteps 8 (tsteps 8 (tsteps 8 (tsteps 8 (s ^^^ BitVec.ofNat 32 a.toNat) ^^^ BitVec.ofNat 32 b.toNat) ^^^ BitVec.ofNat 32 c.toNat) ^^^ BitVec.ofNat 32 d.toNat) := rfl
  rw [h1]
  unfold wordx
  rw [← BitVec.xor_assoc, ← BitVec.xor_assoc, ← BitVec.xor_assoc]
  simp only [tsteps_xor]
  rw [up8 b 8 24 (by omega), up8 c 16 16 (by omega), up8 d 24 8 (by omega)]
  simp only [← tsteps_add]
theorem nat_xor_add (a b k : Nat) (ha : a < 2 ^ k) : a ^^^ (b * 2 ^ k) = a + b * 2 ^ k := by
  have h := Nat.two_pow_add_eq_or_of_lt ha b
  have h2 : a ^^^ (2 ^ k * b) = 2 ^ k * b ||| a := by
    apply Nat.eq_of_testBit_eq
    intro i
    rw [Nat.testBit_xor, Nat.testBit_or, Nat.testBit_two_pow_mul]
    rcases Nat.lt_or_ge i k with hi | hi
    · have : decide (i ≥ k) = false := by simp; omega
      rw [this]; simp
    · rw [Nat.testBit_lt_two_pow (Nat.lt_of_lt_of_le ha (Nat.pow_le_pow_right (by omega) hi))]; simp
  rw [Nat.mul_comm b, h2, ← h, Nat.add_comm]
theorem word_xor (a b c d : UInt8) : cword a b c d = wordx a b c d := by
  have := a.toNat_lt; have := b.toNat_lt; have := c.toNat_lt; have := d.toNat_lt
  apply BitVec.eq_of_toNat_eq
  have e1 : (BitVec.ofNat 32 a.toNat).toNat = a.toNat := by simp
  have e2 : (BitVec.ofNat 32 b.toNat <<< 8).toNat = b.toNat * 2 ^ 8 := by simp [Nat.shiftLeft_eq]; omega
  have e3 : (BitVec.ofNat 32 c.toNat <<< 16).toNat = c.toNat * 2 ^ 16 := by simp [Nat.shiftLeft_eq]; omega
  have e4 : (BitVec.ofNat 32 d.toNat <<< 24).toNat = d.toNat * 2 ^ 24 := by simp [Nat.shiftLeft_eq]; omega
  unfold cword wordx
  rw [BitVec.toNat_xor, BitVec.toNat_xor, BitVec.toNat_xor, e1, e2, e3, e4]
  rw [nat_xor_add a.toNat b.toNat 8 (by omega), nat_xor_add _ c.toNat 16 (by omega), nat_xor_add _ d.toNat 24 (by omega)]
  simp; omega
theorem crun_inj {a b : BitVec 32} (l : List UInt8) (h : crun a l = crun b l) : a = b := by
  induction l generalizing a b with
  | nil => exact h
  | cons x l ih =>
    have h1 := ih (a := byteStep a x) (b := byteStep b x) h
    have h2 := tsteps_inj h1
    have := congrArg (· ^^^ BitVec.ofNat 32 x.toNat) h2
    simpa [BitVec.xor_assoc] using this

theorem crun_four_inj {s : BitVec 32} {a b c d a' b' c' d' : UInt8} (h : crun s [a, b, c, d] = crun s [a', b', c', d']) : a = a' ∧ b = b' ∧ c = c' ∧ d = d' := by
  rw [crun_four, crun_four] at h
  have h1 := tsteps_inj h
  have h2 := congrArg (s ^^^ ·) h1
  simp only [← BitVec.xor_assoc, BitVec.xor_self, BitVec.zero_xor] at h2
  rw [← word_xor, ← word_xor] at h2
  exact word_inj h2
/-- UP TO FOUR NEIGHBOURS that are others are told. -/
theorem of_burst (p q : List UInt8) {a b c d a' b' c' d' : UInt8} (h : cof (p ++ [a, b, c, d] ++ q) = cof (p ++ [a', b', c', d'] ++ q)) : a = a' ∧ b = b' ∧ c = c' ∧ d = d' := by
  unfold cof con at h
  have h1 := congrArg (~~~ ·) h
  simp only [BitVec.not_not] at h1
  rw [crun_append, crun_append, crun_append, crun_append] at h1
  exact crun_four_inj (crun_inj q h1)
/-- Bytes with their check behind them. -/
theorem of_tail (l : List UInt8) : cof (l ++ ctail l) = ~~~ (tsteps 32 (BitVec.allOnes 32)) := by
  unfold cof con
  rw [crun_append]
  have e : ctail l = cbytes (~~~ (crun (~~~ 0#32) l)) := rfl
  rw [e]
  generalize crun (~~~ 0#32) l = s
  unfold cbytes
  rw [crun_four, ← word_xor, word_bytes]
  congr 2
  apply BitVec.eq_of_getLsbD_eq
  intro i hi
  rw [BitVec.getLsbD_xor, BitVec.getLsbD_not, BitVec.getLsbD_allOnes]
  simp only [hi, decide_true, Bool.true_and]
  cases s.getLsbD i <;> rfl
theorem tail_inj {a b : List UInt8} (h : ctail a = ctail b) : cof a = cof b := cbytes_inj h
theorem byteStep_xor3 (c1 c2 c3 : BitVec 32) (x y z : UInt8) : byteStep (c1 ^^^ c2 ^^^ c3) (x ^^^ y ^^^ z) = byteStep c1 x ^^^ byteStep c2 y ^^^ byteStep c3 z := by
  unfold byteStep
  rw [← tsteps_xor, ← tsteps_xor]
  congr 1
  have e : BitVec.ofNat 32 (x ^^^ y ^^^ z).toNat = BitVec.ofNat 32 x.toNat ^^^ BitVec.ofNat 32 y.toNat ^^^ BitVec.ofNat 32 z.toNat := by
    apply BitVec.eq_of_toNat_eq
    have := x.toNat_lt; have := y.toNat_lt; have := z.toNat_lt; have := (x ^^^ y ^^^ z).toNat_lt
    simp only [BitVec.toNat_xor, BitVec.toNat_ofNat]
    rw [Nat.mod_eq_of_lt (by omega), Nat.mod_eq_of_lt (by omega), Nat.mod_eq_of_lt (by omega), Nat.mod_eq_of_lt (by omega)]
    simp
  rw [e]
  generalize BitVec.ofNat 32 x.toNat = u
  generalize BitVec.ofNat 32 y.toNat = v
  generalize BitVec.ofNat 32 z.toNat = w
  simp only [BitVec.xor_assoc]
  congr 1
  rw [← BitVec.xor_assoc c3, BitVec.xor_comm c3 u, BitVec.xor_assoc, ← BitVec.xor_assoc c2, BitVec.xor_comm c2 u, BitVec.xor_assoc]
  congr 2
  rw [← BitVec.xor_assoc c3, BitVec.xor_comm c3 v, BitVec.xor_assoc]
end Go.Proofs.Ytdjgndnllaingaa.CrcM
