/-
  VALUES AS BITS: THE PLAIN LAW.
  VALUES AS BITS: ALL OF THEM, THE PLAIN LAW.
-/
import Derived.Test.YtdidengokijcjaaDoorJ04
import Derived.RowKit
/-
  VALUES AS BITS: THE PLAIN LAW.
-/
namespace Go.Proofs.YtdidengokijcjaaDoor.VaM
set_option linter.unusedVariables false
open Go.RowKit BitsM
/-- What is known behind some values: how many, the last one, the window's beginning and end. -/
abbrev Sv := Nat × Nat × Nat × Nat
def ld (x : Nat) : Nat := 64 - Lib.bitLen x
def tr (x : Nat) : Nat := Lib.ctz 64 x
def okW (l t : Nat) : Prop := (l = 64 ∧ t = 0) ∨ (l < 64 ∧ t < 64 - l)
def okV (s : Sv) : Prop := s.2.1 < 18446744073709551616 ∧ okW s.2.2.1 s.2.2.2
theorem okW_size {l t : Nat} (h : okW l t) : l + t ≤ 64 := by unfold okW at h; omega
theorem win_new (x : Nat) (hx : x < 18446744073709551616) (h0 : x ≠ 0) : ld x < 64 ∧ tr x < 64 - ld x := by
  obtain ⟨h1, h2⟩ := between x hx h0
  unfold ld tr; omega
theorem okW_new (x : Nat) (hx : x < 18446744073709551616) (h0 : x ≠ 0) : okW (ld x) (tr x) := .inr (win_new x hx h0)
theorem ld_lt (x l : Nat) (hx : x < 18446744073709551616) (h : l ≤ ld x) : x < 2 ^ (64 - l) := by
  by_cases h0 : x = 0
  · subst h0; exact Nat.two_pow_pos _
  obtain ⟨b1, b2, b3⟩ := Lib.bitLenAux_bounds 64 x hx h0
  refine Nat.lt_of_lt_of_le b3 (Nat.pow_le_pow_right (by omega) ?_)
  obtain ⟨h1, h2⟩ := between x hx h0
  have : Lib.bitLen x = Lib.bitLenAux 64 x := rfl
  unfold ld at h; omega
theorem tr_dvd (x t : Nat) (hx : x < 18446744073709551616) (h0 : x ≠ 0) (h : t ≤ tr x) : x / 2 ^ t * 2 ^ t = x := by
  obtain ⟨m, hm, hk⟩ := Lib.ctzFrom_spec 64 x (by omega) hx
  have e : tr x = Lib.ctzFrom 64 x := by simp [tr, Lib.ctz, h0]
  rw [← e] at hm
  have : 2 ^ t ∣ x := by
    rw [hm, show tr x = t + (tr x - t) by omega, Nat.pow_add, Nat.mul_assoc]
    exact Nat.dvd_mul_right _ _
  exact Nat.div_mul_cancel this
/-- Does a change fit the window? -/
def inB (s : Sv) (x : Nat) : Bool := decide (s.2.2.1 < 64) && decide (s.2.2.1 ≤ ld x) && decide (s.2.2.2 ≤ tr x)
theorem inB_iff (s : Sv) (x : Nat) : inB s x = true ↔ s.2.2.1 < 64 ∧ s.2.2.1 ≤ ld x ∧ s.2.2.2 ≤ tr x := by
  unfold inB; simp [and_assoc]
def putV (s : Sv) (v : Nat) : List Bool :=
  if s.1 = 0 then msb v 64
  else if v ^^^ s.2.1 = 0 then [false]
  else if inB s (v ^^^ s.2.1) = true then [true, false] ++ msb ((v ^^^ s.2.1) / 2 ^ s.2.2.2) (64 - s.2.2.1 - s.2.2.2)
  else [true, true] ++ msb (ld (v ^^^ s.2.1)) 6 ++ msb (63 - ld (v ^^^ s.2.1) - tr (v ^^^ s.2.1)) 6 ++ msb ((v ^^^ s.2.1) / 2 ^ tr (v ^^^ s.2.1)) (64 - ld (v ^^^ s.2.1) - tr (v ^^^ s.2.1))
def aftV (s : Sv) (v : Nat) : Sv :=
  if s.1 = 0 ∨ v ^^^ s.2.1 = 0 ∨ inB s (v ^^^ s.2.1) = true then (s.1 + 1, v, s.2.2.1, s.2.2.2) else (s.1 + 1, v, ld (v ^^^ s.2.1), tr (v ^^^ s.2.1))
theorem xor_lt {a b : Nat} (ha : a < 18446744073709551616) (hb : b < 18446744073709551616) : a ^^^ b < 18446744073709551616 := Nat.xor_lt_two_pow (n := 64) ha hb
theorem okV_aft {s : Sv} {v : Nat} (hs : okV s) (hv : v < 18446744073709551616) : okV (aftV s v) := by
  unfold aftV
  split
  · exact ⟨hv, hs.2⟩
  · rename_i h
    exact ⟨hv, okW_new _ (xor_lt hv hs.1) (fun e => h (.inr (.inl e)))⟩
theorem aftV_N (s : Sv) (v : Nat) : (aftV s v).1 = s.1 + 1 := by unfold aftV; split <;> rfl
theorem aftV_V (s : Sv) (v : Nat) : (aftV s v).2.1 = v := by unfold aftV; split <;> rfl
theorem putV_len (s : Sv) (v : Nat) : (putV s v).length ≤ 78 ∧ 1 ≤ (putV s v).length := by
  unfold putV
  split
  · rw [msb_length]; omega
  split
  · simp
  split
  · rw [List.length_append, msb_length]; simp; omega
  · simp only [List.length_append, msb_length, List.length_cons, List.length_nil]; omega
/-- A value again needs one bit. -/
theorem putV_again (s : Sv) (v : Nat) : (putV (aftV s v) v).length = 1 := by
  unfold putV
  rw [aftV_N, aftV_V, if_neg (by omega), Nat.xor_self, if_pos rfl]
  rfl
/-- The value that bits tell, and how many bits it has. -/
def getV (b : List Bool) (s : Sv) : Option (Nat × Nat) :=
  if s.1 = 0 then (if b.length < 64 then none else some (numB (b.take 64), 64))
  else match b with
  | [] => none
  | false :: _ => some (s.2.1, 1)
  | [true] => none
  | true :: false :: r =>
    if r.length < 64 - s.2.2.1 - s.2.2.2 then none
    else if numB (r.take (64 - s.2.2.1 - s.2.2.2)) * 2 ^ s.2.2.2 ≠ 0 ∧ inB s (numB (r.take (64 - s.2.2.1 - s.2.2.2)) * 2 ^ s.2.2.2) = true then some (s.2.1 ^^^ (numB (r.take (64 - s.2.2.1 - s.2.2.2)) * 2 ^ s.2.2.2), 2 + (64 - s.2.2.1 - s.2.2.2)) else none
  | true :: true :: r =>
    if r.length < 12 then none
    else if 63 < numB (r.take 6) + numB ((r.drop 6).take 6) then none
    else if r.length < 12 + (numB ((r.drop 6).take 6) + 1) then none
    else if numB ((r.drop 12).take (numB ((r.drop 6).take 6) + 1)) * 2 ^ (63 - numB (r.take 6) - numB ((r.drop 6).take 6)) ≠ 0 ∧ inB s (numB ((r.drop 12).take (numB ((r.drop 6).take 6) + 1)) * 2 ^ (63 - numB (r.take 6) - numB ((r.drop 6).take 6))) = false ∧
      ld (numB ((r.drop 12).take (numB ((r.drop 6).take 6) + 1)) * 2 ^ (63 - numB (r.take 6) - numB ((r.drop 6).take 6))) = numB (r.take 6) ∧ tr (numB ((r.drop 12).take (numB ((r.drop 6).take 6) + 1)) * 2 ^ (63 - numB (r.take 6) - numB ((r.drop 6).take 6))) = 63 - numB (r.take 6) - numB ((r.drop 6).take 6)
    then some (s.2.1 ^^^ (numB ((r.drop 12).take (numB ((r.drop 6).take 6) + 1)) * 2 ^ (63 - numB (r.take 6) - numB ((r.drop 6).take 6))), 14 + (numB ((r.drop 6).take 6) + 1)) else none
theorem xor_back (a b : Nat) : b ^^^ (a ^^^ b) = a := by rw [Nat.xor_comm a b, ← Nat.xor_assoc, Nat.xor_self, Nat.zero_xor]
theorem xor_fore (a b : Nat) : (b ^^^ a) ^^^ b = a := by rw [Nat.xor_comm b a, Nat.xor_assoc, Nat.xor_self, Nat.xor_zero]
theorem take_msb (v n : Nat) (r : List Bool) (hv : v < 2 ^ n) : numB ((msb v n ++ r).take n) = v := by
  have := List.take_left (l₁ := msb v n) (l₂ := r)
  rw [msb_length] at this
  rw [this, numB_msb, Nat.mod_eq_of_lt hv]
theorem drop_msb (v n : Nat) (r : List Bool) : (msb v n ++ r).drop n = r := by
  have := List.drop_left (l₁ := msb v n) (l₂ := r)
  rw [msb_length] at this
  exact this
theorem shift_lt (x l t : Nat) (hx : x < 2 ^ (64 - l)) (hlt : l + t ≤ 64) : x / 2 ^ t < 2 ^ (64 - l - t) := by
  rw [Nat.div_lt_iff_lt_mul (Nat.two_pow_pos t), ← Nat.pow_add, show 64 - l - t + t = 64 - l by omega]
  exact hx
theorem get_put (s : Sv) (v : Nat) (hs : okV s) (hv : v < 18446744073709551616) (r : List Bool) : getV (putV s v ++ r) s = some (v, (putV s v).length) := by
  unfold getV putV
  by_cases h0 : s.1 = 0
  · simp only [if_pos h0]
    rw [if_neg (by rw [List.length_append, msb_length]; omega), take_msb v 64 r hv, msb_length]
  simp only [if_neg h0]
  have hx := xor_lt hv hs.1
  have hb := xor_back v s.2.1
  generalize v ^^^ s.2.1 = x at *
  by_cases hx0 : x = 0
  · simp only [if_pos hx0]
    subst hx0
    rw [Nat.xor_zero] at hb
    subst hb
    rfl
  simp only [if_neg hx0]
  by_cases hi : inB s x = true
  · obtain ⟨i1, i2, i3⟩ := (inB_iff s x).1 hi
    have hw := okW_size hs.2
    simp only [if_pos hi]
    have e1 := take_msb (x / 2 ^ s.2.2.2) (64 - s.2.2.1 - s.2.2.2) r (shift_lt x _ _ (ld_lt x _ hx i2) hw)
    have e2 := tr_dvd x _ hx hx0 i3
    have ea : ([true, false] ++ msb (x / 2 ^ s.2.2.2) (64 - s.2.2.1 - s.2.2.2) ++ r) = true :: false :: (msb (x / 2 ^ s.2.2.2) (64 - s.2.2.1 - s.2.2.2) ++ r) := by simp
    rw [ea]
    show (if (msb (x / 2 ^ s.2.2.2) (64 - s.2.2.1 - s.2.2.2) ++ r).length < 64 - s.2.2.1 - s.2.2.2 then none else _) = _
    rw [if_neg (by rw [List.length_append, msb_length]; omega)]
    rw [e1, e2, if_pos ⟨hx0, hi⟩, hb, List.length_append, msb_length]
    rfl
  · simp only [if_neg hi]
    obtain ⟨n1, n2⟩ := win_new x hx hx0
    have hl := ld_lt x _ hx (Nat.le_refl _)
    have hd := tr_dvd x _ hx hx0 (Nat.le_refl _)
    have hif : inB s x = false := by simpa using hi
    generalize hL : ld x = L at *
    generalize hT : tr x = T at *
    have e1 : numB ((msb L 6 ++ (msb (63 - L - T) 6 ++ (msb (x / 2 ^ T) (64 - L - T) ++ r))).take 6) = L := take_msb L 6 _ (by omega)
    have e2 : numB (((msb L 6 ++ (msb (63 - L - T) 6 ++ (msb (x / 2 ^ T) (64 - L - T) ++ r))).drop 6).take 6) = 63 - L - T := by
      rw [drop_msb]; exact take_msb _ 6 _ (by omega)
    have e3 : numB (((msb L 6 ++ (msb (63 - L - T) 6 ++ (msb (x / 2 ^ T) (64 - L - T) ++ r))).drop 12).take (64 - L - T)) = x / 2 ^ T := by
      rw [show (12 : Nat) = 6 + 6 from rfl, ← List.drop_drop, drop_msb, drop_msb]
      exact take_msb _ _ _ (shift_lt x _ _ hl (by omega))
    have ea : ([true, true] ++ msb L 6 ++ msb (63 - L - T) 6 ++ msb (x / 2 ^ T) (64 - L - T) ++ r) = true :: true :: (msb L 6 ++ (msb (63 - L - T) 6 ++ (msb (x / 2 ^ T) (64 - L - T) ++ r))) := by
      simp
    rw [ea]
    have hlen : (msb L 6 ++ (msb (63 - L - T) 6 ++ (msb (x / 2 ^ T) (64 - L - T) ++ r))).length = 12 + (64 - L - T) + r.length := by
      simp only [List.length_append, msb_length]; omega
    have hpl : ([true, true] ++ msb L 6 ++ msb (63 - L - T) 6 ++ msb (x / 2 ^ T) (64 - L - T)).length = 14 + (64 - L - T) := by
      simp only [List.length_append, msb_length, List.length_cons, List.length_nil]
    rw [hpl]
    generalize msb L 6 ++ (msb (63 - L - T) 6 ++ (msb (x / 2 ^ T) (64 - L - T) ++ r)) = R at *
    show (if R.length < 12 then none else _) = _
    rw [if_neg (by omega)]
    simp only [e1, e2]
    have e4 : 63 - L - T + 1 = 64 - L - T := by omega
    have e5 : 63 - L - (63 - L - T) = T := by omega
    rw [if_neg (by omega), e4, e5, if_neg (by omega), e3, hd, if_pos ⟨hx0, hif, hL, hT⟩, hb]
theorem append_take {b : List Bool} {n : Nat} : b = b.take n ++ b.drop n := (List.take_append_drop n b).symm
theorem msb_take (b : List Bool) (n : Nat) (h : n ≤ b.length) : msb (numB (b.take n)) n = b.take n := by
  have hl : (b.take n).length = n := by rw [List.length_take]; omega
  have := msb_numB (b.take n)
  rw [hl] at this; exact this
theorem numB_take_lt' (b : List Bool) (n : Nat) (h : n ≤ b.length) : numB (b.take n) < 2 ^ n := by
  have hl : (b.take n).length = n := by rw [List.length_take]; omega
  have := numB_lt (b.take n)
  rw [hl] at this; exact this
theorem mul_pow_lt (a l t : Nat) (h : a < 2 ^ (64 - l - t)) (hlt : l + t ≤ 64) : a * 2 ^ t < 18446744073709551616 := by
  have h1 : a * 2 ^ t < 2 ^ (64 - l - t) * 2 ^ t := (Nat.mul_lt_mul_right (Nat.two_pow_pos t)).2 h
  rw [← Nat.pow_add] at h1
  exact Nat.lt_of_lt_of_le h1 (Nat.pow_le_pow_right (by omega) (show 64 - l - t + t ≤ 64 by omega))
theorem put_get (b : List Bool) (s : Sv) (v k : Nat) (hs : okV s) (h : getV b s = some (v, k)) : v < 18446744073709551616 ∧ b.take k = putV s v ∧ k = (putV s v).length ∧ k ≤ b.length := by
  unfold getV at h
  unfold putV
  by_cases h0 : s.1 = 0
  · simp only [if_pos h0] at h ⊢
    split at h
    · cases h
    rename_i hl
    injection h with h
    injection h with h1 h2
    subst h1 h2
    refine ⟨numB_take_lt' b 64 (by omega), (msb_take b 64 (by omega)).symm, (msb_length _ _).symm, by omega⟩
  simp only [if_neg h0] at h ⊢
  match b, h with
  | false :: b, h =>
    injection h with h
    injection h with h1 h2
    subst h1 h2
    rw [Nat.xor_self, if_pos rfl]
    exact ⟨hs.1, rfl, rfl, by simp⟩
  | true :: false :: r, h =>
    change (if r.length < 64 - s.2.2.1 - s.2.2.2 then none else _) = _ at h
    have hw := okW_size hs.2
    split at h
    · cases h
    rename_i hl
    split at h
    · rename_i hc
      injection h with h
      injection h with h1 h2
      subst h1 h2
      have hlt := numB_take_lt' r (64 - s.2.2.1 - s.2.2.2) (by omega)
      have hm := msb_take r (64 - s.2.2.1 - s.2.2.2) (by omega)
      have hx := mul_pow_lt _ _ _ hlt hw
      rw [xor_fore, if_neg hc.1, if_pos hc.2, Nat.mul_div_cancel _ (Nat.two_pow_pos _), hm]
      refine ⟨xor_lt hs.1 hx, ?_, ?_, ?_⟩
      · rw [Nat.add_comm]; rfl
      · rw [List.length_append, List.length_take]; simp; omega
      · simp; omega
    · cases h
  | true :: true :: r, h =>
    change (if r.length < 12 then none else _) = _ at h
    split at h
    · cases h
    rename_i hl
    split at h
    · cases h
    rename_i hac
    split at h
    · cases h
    rename_i hl2
    split at h
    · rename_i hc
      obtain ⟨c1, c2, c3, c4⟩ := hc
      injection h with h
      injection h with h1 h2
      have ha := numB_take_lt' r 6 (by omega)
      have hcc := numB_take_lt' (r.drop 6) 6 (by rw [List.length_drop]; omega)
      have hlt := numB_take_lt' (r.drop 12) (numB ((r.drop 6).take 6) + 1) (by rw [List.length_drop]; omega)
      have m1 := msb_take r 6 (by omega)
      have m2 := msb_take (r.drop 6) 6 (by rw [List.length_drop]; omega)
      have m3 := msb_take (r.drop 12) (numB ((r.drop 6).take 6) + 1) (by rw [List.length_drop]; omega)
      generalize hA : numB (r.take 6) = A at *
      generalize hC : numB ((r.drop 6).take 6) = C at *
      generalize hV : numB ((r.drop 12).take (C + 1)) = V at *
      have hx : V * 2 ^ (63 - A - C) < 18446744073709551616 := mul_pow_lt V A (63 - A - C) (by rw [show 64 - A - (63 - A - C) = C + 1 by omega]; exact hlt) (by omega)
      subst h1 h2
      rw [xor_fore, if_neg c1, c2, c3, c4]
      simp only [Bool.false_eq_true, if_false]
      rw [Nat.mul_div_cancel _ (Nat.two_pow_pos _), show 63 - A - (63 - A - C) = C by omega, show 64 - A - (63 - A - C) = C + 1 by omega, m1, m2, m3]
      have e : [true, true] ++ r.take 6 ++ (r.drop 6).take 6 ++ (r.drop 12).take (C + 1) = [true, true] ++ r.take (12 + (C + 1)) := by
        rw [show 12 + (C + 1) = 6 + (6 + (C + 1)) by omega, List.take_add (i := 6), List.take_add (i := 6), List.drop_drop]
        simp only [List.append_assoc]
      rw [e]
      refine ⟨xor_lt hs.1 hx, ?_, ?_, ?_⟩
      · rw [show 14 + (C + 1) = (12 + (C + 1)) + 2 by omega]; rfl
      · rw [List.length_append, List.length_take]; simp; omega
      · simp; omega
    · cases h
end Go.Proofs.YtdidengokijcjaaDoor.VaM
/-
  VALUES AS BITS: ALL OF THEM, THE PLAIN LAW.
-/
namespace Go.Proofs.YtdidengokijcjaaDoor.VaM
set_option linter.unusedVariables false
open Go.RowKit BitsM
def okU (v : Nat) : Prop := v < 18446744073709551616
def bitsV : Sv → List Nat → List Bool
  | _, [] => []
  | s, v :: l => putV s v ++ bitsV (aftV s v) l
def stV : Sv → List Nat → Sv
  | s, [] => s
  | s, v :: l => stV (aftV s v) l
theorem bitsV_append (s : Sv) (a b : List Nat) : bitsV s (a ++ b) = bitsV s a ++ bitsV (stV s a) b := by
  induction a generalizing s with
  | nil => rfl
  | cons t a ih => rw [List.cons_append, bitsV, bitsV, stV, ih, List.append_assoc]
theorem stV_append (s : Sv) (a b : List Nat) : stV s (a ++ b) = stV (stV s a) b := by
  induction a generalizing s with
  | nil => rfl
  | cons t a ih => rw [List.cons_append, stV, stV, ih]
theorem bitsV_snoc (s : Sv) (a : List Nat) (t : Nat) : bitsV s (a ++ [t]) = bitsV s a ++ putV (stV s a) t := by
  rw [bitsV_append]; simp [bitsV]
theorem stV_snoc (s : Sv) (a : List Nat) (t : Nat) : stV s (a ++ [t]) = aftV (stV s a) t := by
  rw [stV_append]; rfl
theorem okV_all {s : Sv} {l : List Nat} (hs : okV s) (hl : ∀ t ∈ l, okU t) : okV (stV s l) := by
  induction l generalizing s with
  | nil => exact hs
  | cons t l ih => exact ih (okV_aft hs (hl t (by simp))) (fun x hx => hl x (by simp [hx]))
theorem stV_N (s : Sv) (l : List Nat) : (stV s l).1 = s.1 + l.length := by
  induction l generalizing s with
  | nil => rfl
  | cons t l ih => rw [stV, ih, aftV_N, List.length_cons]; omega
theorem bitsV_len (s : Sv) (l : List Nat) : (bitsV s l).length ≤ 78 * l.length := by
  induction l generalizing s with
  | nil => simp [bitsV]
  | cons t l ih => unfold bitsV; rw [List.length_append, List.length_cons]; have := ih (aftV s t); have := (putV_len s t).1; omega
/-- So many values out of bits, and what is left. -/
def readV : List Bool → Nat → Sv → Option (List Nat × List Bool)
  | b, 0, _ => some ([], b)
  | b, n + 1, s => match getV b s with
    | none => none
    | some (t, k) => (readV (b.drop k) n (aftV s t)).map fun x : List Nat × List Bool => (t :: x.1, x.2)
theorem read_all (s : Sv) (l : List Nat) (r : List Bool) (hs : okV s) (hl : ∀ t ∈ l, okU t) : readV (bitsV s l ++ r) l.length s = some (l, r) := by
  induction l generalizing s with
  | nil => rfl
  | cons t l ih =>
    have ht := hl t (by simp)
    unfold bitsV
    rw [List.length_cons, List.append_assoc]
    unfold readV
    rw [get_put s t hs ht]
    simp only [List.drop_left]
    rw [ih _ (okV_aft hs ht) (fun x hx => hl x (by simp [hx]))]
    rfl
theorem all_read (b : List Bool) (n : Nat) (s : Sv) (l : List Nat) (r : List Bool) (hs : okV s) (h : readV b n s = some (l, r)) : l.length = n ∧ b = bitsV s l ++ r ∧ ∀ t ∈ l, okU t := by
  induction n generalizing b s l with
  | zero =>
    unfold readV at h
    injection h with h
    injection h with h1 h2
    subst h1 h2
    exact ⟨rfl, rfl, fun t ht => by simp at ht⟩
  | succ n ih =>
    unfold readV at h
    cases hg : getV b s with
    | none => rw [hg] at h; cases h
    | some x =>
      obtain ⟨t, k⟩ := x
      rw [hg] at h
      simp only [] at h
      obtain ⟨g1, g2, g3, g4⟩ := put_get b s t k hs hg
      cases hr : readV (b.drop k) n (aftV s t) with
      | none => rw [hr] at h; cases h
      | some y =>
        obtain ⟨l', r'⟩ := y
        rw [hr] at h
        simp only [Option.map_some, Option.some.injEq, Prod.mk.injEq] at h
        obtain ⟨h1, h2⟩ := h
        subst h1 h2
        obtain ⟨i1, i2, i3⟩ := ih _ _ _ (okV_aft hs g1) hr
        refine ⟨by simp [i1], ?_, fun x hx => ?_⟩
        · unfold bitsV
          rw [List.append_assoc, ← i2, ← g2, List.take_append_drop]
        · rcases List.mem_cons.1 hx with hx | hx
          · rw [hx]; exact g1
          · exact i3 x hx
theorem byteB_msb (x : UInt8) : byteB (msb x.toNat 8) = x := by
  apply UInt8.toNat_inj.1
  rw [byteB_toNat _ (by rw [msb_length]; omega), numB_msb, msb_length]
  have := x.toNat_lt
  rw [Nat.mod_eq_of_lt (by omega)]; simp
theorem pack_unpack (l : List UInt8) : pack (unpack l) = l := by
  refine snocInd (P := fun l => pack (unpack l) = l) rfl (fun l x ih => ?_) l
  have e : unpack [x] = msb x.toNat 8 := by simp [unpack]
  rw [unpack_append, e, pack_new _ _ (by rw [unpack_length]; omega) (by rw [msb_length]; omega) (by rw [msb_length]; omega), ih, byteB_msb]
theorem pack_clean (l : List UInt8) (b r : List Bool) (h : unpack l = b ++ r) (hr : (r.all (! ·) && decide (r.length < 8)) = true) : pack b = l := by
  rw [Bool.and_eq_true, decide_eq_true_iff] at hr
  have e : r = List.replicate r.length false := List.eq_replicate_of_mem fun x hx => by
    have := List.all_eq_true.1 hr.1 x hx
    simpa using this
  have hz := congrArg List.length h
  rw [unpack_length, List.length_append] at hz
  rw [← pack_unpack l, h, e]
  exact (pack_pad b _ hr.2 (by omega)).symm
/-- At first. -/
def v0 : Sv := (0, 0, 64, 0)
theorem okV0 : okV v0 := ⟨show (0 : Nat) < 18446744073709551616 by omega, .inl ⟨rfl, rfl⟩⟩
/-! Values that are all turned by as much. -/
theorem xor_turn (a b d : Nat) : (a ^^^ d) ^^^ (b ^^^ d) = a ^^^ b := by
  rw [Nat.xor_comm b d, ← Nat.xor_assoc, Nat.xor_assoc a d d, Nat.xor_self, Nat.xor_zero]
theorem turned_bits (d : Nat) : ∀ (l : List Nat) (N V L T : Nat), 1 ≤ N → bitsV (N, V ^^^ d, L, T) (l.map (· ^^^ d)) = bitsV (N, V, L, T) l
  | [], _, _, _, _, _ => rfl
  | t :: l, N, V, L, T, h1 => by
    have hn : ¬ N = 0 := by omega
    have hi : ∀ x, inB (N, V ^^^ d, L, T) x = inB (N, V, L, T) x := fun x => rfl
    have e1 : putV (N, V ^^^ d, L, T) (t ^^^ d) = putV (N, V, L, T) t := by
      unfold putV; simp only [xor_turn, hi, if_neg hn]
    rw [List.map_cons]
    unfold bitsV
    rw [e1]
    congr 1
    by_cases hc : t ^^^ V = 0 ∨ inB (N, V, L, T) (t ^^^ V) = true
    · have e2 : aftV (N, V ^^^ d, L, T) (t ^^^ d) = (N + 1, t ^^^ d, L, T) := by
        unfold aftV; simp only [xor_turn, hi]; rw [if_pos (.inr hc)]
      have e3 : aftV (N, V, L, T) t = (N + 1, t, L, T) := by
        unfold aftV; rw [if_pos (.inr hc)]
      rw [e2, e3, turned_bits d l (N + 1) t L T (by omega)]
    · have hc' : ¬ (N = 0 ∨ t ^^^ V = 0 ∨ inB (N, V, L, T) (t ^^^ V) = true) := by
        rintro (h | h)
        · exact hn h
        · exact hc h
      have e2 : aftV (N, V ^^^ d, L, T) (t ^^^ d) = (N + 1, t ^^^ d, ld (t ^^^ V), tr (t ^^^ V)) := by
        unfold aftV; simp only [xor_turn, hi]; rw [if_neg hc']
      have e3 : aftV (N, V, L, T) t = (N + 1, t, ld (t ^^^ V), tr (t ^^^ V)) := by
        unfold aftV; rw [if_neg hc']
      rw [e2, e3, turned_bits d l (N + 1) t _ _ (by omega)]
theorem turned_all (d : Nat) (l : List Nat) : (bitsV v0 (l.map (· ^^^ d))).length = (bitsV v0 l).length ∧ (bitsV v0 (l.map (· ^^^ d))).drop 64 = (bitsV v0 l).drop 64 := by
  cases l with
  | nil => exact ⟨rfl, rfl⟩
  | cons t l =>
    rw [List.map_cons]
    show (msb (t ^^^ d) 64 ++ bitsV (1, t ^^^ d, 64, 0) (l.map (· ^^^ d))).length = (msb t 64 ++ bitsV (1, t, 64, 0) l).length ∧ (msb (t ^^^ d) 64 ++ bitsV (1, t ^^^ d, 64, 0) (l.map (· ^^^ d))).drop 64 = (msb t 64 ++ bitsV (1, t, 64, 0) l).drop 64
    rw [turned_bits d l 1 t 64 0 (by omega), drop_msb, drop_msb]
    simp [msb_length]
theorem pack_at (b c : List Bool) (h : b.length = c.length) (hd : b.drop 64 = c.drop 64) (i : Nat) (hi : 8 ≤ i) : (pack b)[i]? = (pack c)[i]? := by
  unfold pack
  rw [List.getElem?_map, List.getElem?_map, h]
  cases he : (List.range ((c.length + 7) / 8))[i]? with
  | none => rfl
  | some j =>
    obtain ⟨hj, he⟩ := List.getElem?_eq_some_iff.1 he
    rw [List.getElem_range] at he
    subst he
    have e : 8 * i = 64 + (8 * i - 64) := by omega
    show some (byteB ((b.drop (8 * i)).take 8)) = some (byteB ((c.drop (8 * i)).take 8))
    rw [e, ← List.drop_drop, ← List.drop_drop, hd]
/-! The same value again and again. -/
theorem same_state (v : Nat) : ∀ k : Nat, stV v0 (List.replicate (k + 1) v) = (k + 1, v, 64, 0)
  | 0 => rfl
  | k + 1 => by
    rw [List.replicate_succ', stV_snoc, same_state v k]
    unfold aftV
    rw [if_pos (.inr (.inl (Nat.xor_self v)))]
theorem same_len (v : Nat) : ∀ k : Nat, (bitsV v0 (List.replicate (k + 1) v)).length = 64 + k
  | 0 => by
    show (msb v 64 ++ []).length = 64
    rw [List.append_nil, msb_length]
  | k + 1 => by
    rw [List.replicate_succ', bitsV_snoc, List.length_append, same_len v k, same_state v k]
    have e : putV (k + 1, v, 64, 0) v = [false] := by
      unfold putV; rw [if_neg (by show ¬ k + 1 = 0; omega), if_pos (Nat.xor_self v)]
    rw [e]; simp; omega
/-! Read as a whole. -/
def readB (S : List Bool) (n : Int) : Option (List Nat) :=
  if n < 0 ∨ 10000 < n then none else (readV S n.toNat v0).bind fun x : List Nat × List Bool => if (x.2.all (! ·) && decide (x.2.length < 8)) = true then some x.1 else none
theorem read_back (l : List Nat) (hl : ∀ t ∈ l, okU t) (hn : l.length ≤ 10000) : readB (unpack (pack (bitsV v0 l))) (l.length : Int) = some l := by
  unfold readB
  rw [if_neg (by omega), Int.toNat_natCast, unpack_pack, read_all v0 l _ okV0 hl]
  show (if ((zeros _).all (! ·) && decide ((zeros _).length < 8)) = true then some l else none) = some l
  rw [if_pos]
  rw [zeros_all, Bool.true_and]
  simp [zeros]; omega
theorem read_only (B : ByteArray) (n : Int) (l : List Nat) (h : readB (unpack B.data.toList) n = some l) : (⟨(pack (bitsV v0 l)).toArray⟩ : ByteArray) = B ∧ (l.length : Int) = n ∧ (∀ t ∈ l, okU t) ∧ l.length ≤ 10000 := by
  unfold readB at h
  split at h
  · cases h
  rename_i hn
  cases hr : readV (unpack B.data.toList) n.toNat v0 with
  | none => rw [hr] at h; cases h
  | some x =>
    obtain ⟨l', r⟩ := x
    rw [hr] at h
    change (if (r.all (! ·) && decide (r.length < 8)) = true then some l' else none) = some l at h
    split at h
    · rename_i hc
      injection h with h
      subst h
      obtain ⟨h1, h2, h3⟩ := all_read _ _ _ _ _ okV0 hr
      have := pack_clean _ _ _ h2 hc
      exact ⟨by rw [this], by omega, h3, by omega⟩
    · cases h
end Go.Proofs.YtdidengokijcjaaDoor.VaM
