/-
  VALUES AS BITS: THE PLAIN LAW.
-/
import Derived.Test.YtboomamnenonoaaDoorBitsBtw
import Derived.RowKit
namespace Go.Proofs.YtboomamnenonoaaDoor.VaM
set_option linter.unusedVariables false
open Go.RowKit BitsM
/-- What is known behind some values: how many, the last one, the window's beginning and end. -/
abbrev Sv := Nat × Nat × Nat × Nat
def ld (x : Nat) : Nat := 64 - Lib.bitLen x
def tr (x : Nat) : Nat := Lib.ctz 64 x
def okW (l t : Nat) : Prop := (l = 64 ∧ t = 0) ∨ (l < 64 ∧ t < 64 - l)
def okV (s : Sv) : Prop := s.2.1 < 18446744073709551616 ∧ okW s.2.2.1 s.2.2.2
theorem okW_size {l t : Nat} (h : okW l t) : l + t ≤ 64 := by unfold okW at h; omega
theorem win_new (x : Nat) (hx : x < 18446744073709551616) (h0 : x ≠ 0) : ld x < 64 ∧ tr x < 64 - ld x := by
  obtain ⟨h1, h2⟩ := between x hx h0
  unfold ld tr; omega
theorem okW_new (x : Nat) (hx : x < 18446744073709551616) (h0 : x ≠ 0) : okW (ld x) (tr x) := .inr (win_new x hx h0)
theorem ld_lt (x l : Nat) (hx : x < 18446744073709551616) (h : l ≤ ld x) : x < 2 ^ (64 - l) := by
  by_cases h0 : x = 0
  · subst h0; exact Nat.two_pow_pos _
  obtain ⟨b1, b2, b3⟩ := Lib.bitLenAux_bounds 64 x hx h0
  refine Nat.lt_of_lt_of_le b3 (Nat.pow_le_pow_right (by omega) ?_)
  obtain ⟨h1, h2⟩ := between x hx h0
  have : Lib.bitLen x = Lib.bitLenAux 64 x := rfl
  unfold ld at h; omega
theorem tr_dvd (x t : Nat) (hx : x < 18446744073709551616) (h0 : x ≠ 0) (h : t ≤ tr x) : x / 2 ^ t * 2 ^ t = x := by
  obtain ⟨m, hm, hk⟩ := Lib.ctzFrom_spec 64 x (by omega) hx
  have e : tr x = Lib.ctzFrom 64 x := by simp [tr, Lib.ctz, h0]
  rw [← e] at hm
  have : 2 ^ t ∣ x := by
    rw [hm, show tr x = t + (tr x - t) by omega, Nat.pow_add, Nat.mul_assoc]
    exact Nat.dvd_mul_right _ _
  exact Nat.div_mul_cancel this
/-- Does a change fit the window? -/
def inB (s : Sv) (x : Nat) : Bool := decide (s.2.2.1 < 64) && decide (s.2.2.1 ≤ ld x) && decide (s.2.2.2 ≤ tr x)
theorem inB_iff (s : Sv) (x : Nat) : inB s x = true ↔ s.2.2.1 < 64 ∧ s.2.2.1 ≤ ld x ∧ s.2.2.2 ≤ tr x := by
  unfold inB; simp [and_assoc]
def putV (s : Sv) (v : Nat) : List Bool :=
  if s.1 = 0 then msb v 64
  else if v ^^^ s.2.1 = 0 then [false]
  else if inB s (v ^^^ s.2.1) = true then [true, false] ++ msb ((v ^^^ s.2.1) / 2 ^ s.2.2.2) (64 - s.2.2.1 - s.2.2.2)
  else [true, true] ++ msb (ld (v ^^^ s.2.1)) 6 ++ msb (63 - ld (v ^^^ s.2.1) - tr (v ^^^ s.2.1)) 6 ++ msb ((v ^^^ s.2.1) / 2 ^ tr (v ^^^ s.2.1)) (64 - ld (v ^^^ s.2.1) - tr (v ^^^ s.2.1))
def aftV (s : Sv) (v : Nat) : Sv :=
  if s.1 = 0 ∨ v ^^^ s.2.1 = 0 ∨ inB s (v ^^^ s.2.1) = true then (s.1 + 1, v, s.2.2.1, s.2.2.2) else (s.1 + 1, v, ld (v ^^^ s.2.1), tr (v ^^^ s.2.1))
theorem xor_lt {a b : Nat} (ha : a < 18446744073709551616) (hb : b < 18446744073709551616) : a ^^^ b < 18446744073709551616 := Nat.xor_lt_two_pow (n := 64) ha hb
theorem okV_aft {s : Sv} {v : Nat} (hs : okV s) (hv : v < 18446744073709551616) : okV (aftV s v) := by
  unfold aftV
  split
  · exact ⟨hv, hs.2⟩
  · rename_i h
    exact ⟨hv, okW_new _ (xor_lt hv hs.1) (fun e => h (.inr (.inl e)))⟩
theorem aftV_N (s : Sv) (v : Nat) : (aftV s v).1 = s.1 + 1 := by unfold aftV; split <;> rfl
theorem aftV_V (s : Sv) (v : Nat) : (aftV s v).2.1 = v := by unfold aftV; split <;> rfl
theorem putV_len (s : Sv) (v : Nat) : (putV s v).length ≤ 78 ∧ 1 ≤ (putV s v).length := by
  unfold putV
  split
  · rw [msb_length]; omega
  split
  · simp
  split
  · rw [List.length_append, msb_length]; simp; omega
  · simp only [List.length_append, msb_length, List.length_cons, List.length_nil]; omega
/-- A value again needs one bit. -/
theorem putV_again (s : Sv) (v : Nat) : (putV (aftV s v) v).length = 1 := by
  unfold putV
  rw [aftV_N, aftV_V, if_neg (by omega), Nat.xor_self, if_pos rfl]
  rfl
/-- The value that bits tell, and how many bits it has. -/
def getV (b : List Bool) (s : Sv) : Option (Nat × Nat) :=
  if s.1 = 0 then (if b.length < 64 then none else some (numB (b.take 64), 64))
  else match b with
  | [] => none
  | false :: _ => some (s.2.1, 1)
  | [true] => none
  | true :: false :: r =>
    if r.length < 64 - s.2.2.1 - s.2.2.2 then none
    else if numB (r.take (64 - s.2.2.1 - s.2.2.2)) * 2 ^ s.2.2.2 ≠ 0 ∧ inB s (numB (r.take (64 - s.2.2.1 - s.2.2.2)) * 2 ^ s.2.2.2) = true then some (s.2.1 ^^^ (numB (r.take (64 - s.2.2.1 - s.2.2.2)) * 2 ^ s.2.2.2), 2 + (64 - s.2.2.1 - s.2.2.2)) else none
  | true :: true :: r =>
    if r.length < 12 then none
    else if 63 < numB (r.take 6) + numB ((r.drop 6).take 6) then none
    else if r.length < 12 + (numB ((r.drop 6).take 6) + 1) then none
    else if numB ((r.drop 12).take (numB ((r.drop 6).take 6) + 1)) * 2 ^ (63 - numB (r.take 6) - numB ((r.drop 6).take 6)) ≠ 0 ∧ inB s (numB ((r.drop 12).take (numB ((r.drop 6).take 6) + 1)) * 2 ^ (63 - numB (r.take 6) - numB ((r.drop 6).take 6))) = false ∧
      ld (numB ((r.drop 12).take (numB ((r.drop 6).take 6) + 1)) * 2 ^ (63 - numB (r.take 6) - numB ((r.drop 6).take 6))) = numB (r.take 6) ∧ tr (numB ((r.drop 12).take (numB ((r.drop 6).take 6) + 1)) * 2 ^ (63 - numB (r.take 6) - numB ((r.drop 6).take 6))) = 63 - numB (r.take 6) - numB ((r.drop 6).take 6)
    then some (s.2.1 ^^^ (numB ((r.drop 12).take (numB ((r.drop 6).take 6) + 1)) * 2 ^ (63 - numB (r.take 6) - numB ((r.drop 6).take 6))), 14 + (numB ((r.drop 6).take 6) + 1)) else none
theorem xor_back (a b : Nat) : b ^^^ (a ^^^ b) = a := by rw [Nat.xor_comm a b, ← Nat.xor_assoc, Nat.xor_self, Nat.zero_xor]
theorem xor_fore (a b : Nat) : (b ^^^ a) ^^^ b = a := by rw [Nat.xor_comm b a, Nat.xor_assoc, Nat.xor_self, Nat.xor_zero]
theorem take_msb (v n : Nat) (r : List Bool) (hv : v < 2 ^ n) : numB ((msb v n ++ r).take n) = v := by
  have := List.take_left (l₁ := msb v n) (l₂ := r)
  rw [msb_length] at this
  rw [this, numB_msb, Nat.mod_eq_of_lt hv]
theorem drop_msb (v n : Nat) (r : List Bool) : (msb v n ++ r).drop n = r := by
  have := List.drop_left (l₁ := msb v n) (l₂ := r)
  rw [msb_length] at this
  exact this
theorem shift_lt (x l t : Nat) (hx : x < 2 ^ (64 - l)) (hlt : l + t ≤ 64) : x / 2 ^ t < 2 ^ (64 - l - t) := by
  rw [Nat.div_lt_iff_lt_mul (Nat.two_pow_pos t), ← Nat.pow_add, show 64 - l - t + t = 64 - l by omega]
  exact hx
theorem get_put (s : Sv) (v : Nat) (hs : okV s) (hv : v < 18446744073709551616) (r : List Bool) : getV (putV s v ++ r) s = some (v, (putV s v).length) := by
  unfold getV putV
  by_cases h0 : s.1 = 0
  · simp only [if_pos h0]
    rw [if_neg (by rw [List.length_append, msb_length]; omega), take_msb v 64 r hv, msb_length]
  simp only [if_neg h0]
  have hx := xor_lt hv hs.1
  have hb := xor_back v s.2.1
  generalize v ^^^ s.2.1 = x at *
  by_cases hx0 : x = 0
  · simp only [if_pos hx0]
    subst hx0
    rw [Nat.xor_zero] at hb
    subst hb
    rfl
  simp only [if_neg hx0]
  by_cases hi : inB s x = true
  · obtain ⟨i1, i2, i3⟩ := (inB_iff s x).1 hi
    have hw := okW_size hs.2
    simp only [if_pos hi]
    have e1 := take_msb (x / 2 ^ s.2.2.2) (64 - s.2.2.1 - s.2.2.2) r (shift_lt x _ _ (ld_lt x _ hx i2) hw)
    have e2 := tr_dvd x _ hx hx0 i3
    have ea : ([true, false] ++ msb (x / 2 ^ s.2.2.2) (64 - s.2.2.1 - s.2.2.2) ++ r) = true :: false :: (msb (x / 2 ^ s.2.2.2) (64 - s.2.2.1 - s.2.2.2) ++ r) := by simp
    rw [ea]
    show (if (msb (x / 2 ^ s.2.2.2) (64 - s.2.2.1 - s.2.2.2) ++ r).length < 64 - s.2.2.1 - s.2.2.2 then none else _) = _
    rw [if_neg (by rw [List.length_append, msb_length]; omega)]
    rw [e1, e2, if_pos ⟨hx0, hi⟩, hb, List.length_append, msb_length]
    rfl
  · simp only [if_neg hi]
    obtain ⟨n1, n2⟩ := win_new x hx hx0
    have hl := ld_lt x _ hx (Nat.le_refl _)
    have hd := tr_dvd x _ hx hx0 (Nat.le_refl _)
    have hif : inB s x = false := by simpa using hi
    generalize hL : ld x = L at *
    generalize hT : tr x = T at *
    have e1 : numB ((msb L 6 ++ (msb (63 - L - T) 6 ++ (msb (x / 2 ^ T) (64 - L - T) ++ r))).take 6) = L := take_msb L 6 _ (by omega)
    have e2 : numB (((msb L 6 ++ (msb (63 - L - T) 6 ++ (msb (x / 2 ^ T) (64 - L - T) ++ r))).drop 6).take 6) = 63 - L - T := by
      rw [drop_msb]; exact take_msb _ 6 _ (by omega)
    have e3 : numB (((msb L 6 ++ (msb (63 - L - T) 6 ++ (msb (x / 2 ^ T) (64 - L - T) ++ r))).drop 12).take (64 - L - T)) = x / 2 ^ T := by
      rw [show (12 : Nat) = 6 + 6 from rfl, ← List.drop_drop, drop_msb, drop_msb]
      exact take_msb _ _ _ (shift_lt x _ _ hl (by omega))
    have ea : ([true, true] ++ msb L 6 ++ msb (63 - L - T) 6 ++ msb (x / 2 ^ T) (64 - L - T) ++ r) = true :: true :: (msb L 6 ++ (msb (63 - L - T) 6 ++ (msb (x / 2 ^ T) (64 - L - T) ++ r))) := by
      simp
    rw [ea]
    have hlen : (msb L 6 ++ (msb (63 - L - T) 6 ++ (msb (x / 2 ^ T) (64 - L - T) ++ r))).length = 12 + (64 - L - T) + r.length := by
      simp only [List.length_append, msb_length]; omega
    have hpl : ([true, true] ++ msb L 6 ++ msb (63 - L - T) 6 ++ msb (x / 2 ^ T) (64 - L - T)).length = 14 + (64 - L - T) := by
      simp only [List.length_append, msb_length, List.length_cons, List.length_nil]
    rw [hpl]
    generalize msb L 6 ++ (msb (63 - L - T) 6 ++ (msb (x / 2 ^ T) (64 - L - T) ++ r)) = R at *
    show (if R.length < 12 then none else _) = _
    rw [if_neg (by omega)]
    simp only [e1, e2]
    have e4 : 63 - L - T + 1 = 64 - L - T := by omega
    have e5 : 63 - L - (63 - L - T) = T := by omega
    rw [if_neg (by omega), e4, e5, if_neg (by omega), e3, hd, if_pos ⟨hx0, hif, hL, hT⟩, hb]
theorem append_take {b : List Bool} {n : Nat} : b = b.take n ++ b.drop n := (List.take_append_drop n b).symm
theorem msb_take (b : List Bool) (n : Nat) (h : n ≤ b.length) : msb (numB (b.take n)) n = b.take n := by
  have hl : (b.take n).length = n := by rw [List.length_take]; omega
  have := msb_numB (b.take n)
  rw [hl] at this; exact this
theorem numB_take_lt' (b : List Bool) (n : Nat) (h : n ≤ b.length) : numB (b.take n) < 2 ^ n := by
  have hl : (b.take n).length = n := by rw [List.length_take]; omega
  have := numB_lt (b.take n)
  rw [hl] at this; exact this
theorem mul_pow_lt (a l t : Nat) (h : a < 2 ^ (64 - l - t)) (hlt : l + t ≤ 64) : a * 2 ^ t < 18446744073709551616 := by
  have h1 : a * 2 ^ t < 2 ^ (64 - l - t) * 2 ^ t := (Nat.mul_lt_mul_right (Nat.two_pow_pos t)).2 h
  rw [← Nat.pow_add] at h1
  exact Nat.lt_of_lt_of_le h1 (Nat.pow_le_pow_right (by omega) (show 64 - l - t + t ≤ 64 by omega))
theorem put_get (b : List Bool) (s : Sv) (v k : Nat) (hs : okV s) (h : getV b s = some (v, k)) : v < 18446744073709551616 ∧ b.take k = putV s v ∧ k = (putV s v).length ∧ k ≤ b.length := by
  unfold getV at h
  unfold putV
  by_cases h0 : s.1 = 0
  · simp only [if_pos h0] at h ⊢
    split at h
    · cases h
    rename_i hl
    injection h with h
    injection h with h1 h2
    subst h1 h2
    refine ⟨numB_take_lt' b 64 (by omega), (msb_take b 64 (by omega)).symm, (msb_length _ _).symm, by omega⟩
  simp only [if_neg h0] at h ⊢
  match b, h with
  | false :: b, h =>
    injection h with h
    injection h with h1 h2
    subst h1 h2
    rw [Nat.xor_self, if_pos rfl]
    exact ⟨hs.1, rfl, rfl, by simp⟩
  | true :: false :: r, h =>
    change (if r.length < 64 - s.2.2.1 - s.2.2.2 then none else _) = _ at h
    have hw := okW_size hs.2
    split at h
    · cases h
    rename_i hl
    split at h
    · rename_i hc
      injection h with h
      injection h with h1 h2
      subst h1 h2
      have hlt := numB_take_lt' r (64 - s.2.2.1 - s.2.2.2) (by omega)
      have hm := msb_take r (64 - s.2.2.1 - s.2.2.2) (by omega)
      have hx := mul_pow_lt _ _ _ hlt hw
      rw [xor_fore, if_neg hc.1, if_pos hc.2, Nat.mul_div_cancel _ (Nat.two_pow_pos _), hm]
      refine ⟨xor_lt hs.1 hx, ?_, ?_, ?_⟩
      · rw [Nat.add_comm]; rfl
      · rw [List.length_append, List.length_take]; simp; omega
      · simp; omega
    · cases h
  | true :: true :: r, h =>
    change (if r.length < 12 then none else _) = _ at h
    split at h
    · cases h
    rename_i hl
    split at h
    · cases h
    rename_i hac
    split at h
    · cases h
    rename_i hl2
    split at h
    · rename_i hc
      obtain ⟨c1, c2, c3, c4⟩ := hc
      injection h with h
      injection h with h1 h2
      have ha := numB_take_lt' r 6 (by omega)
      have hcc := numB_take_lt' (r.drop 6) 6 (by rw [List.length_drop]; omega)
      have hlt := numB_take_lt' (r.drop 12) (numB ((r.drop 6).take 6) + 1) (by rw [List.length_drop]; omega)
      have m1 := msb_take r 6 (by omega)
      have m2 := msb_take (r.drop 6) 6 (by rw [List.length_drop]; omega)
      have m3 := msb_take (r.drop 12) (numB ((r.drop 6).take 6) + 1) (by rw [List.length_drop]; omega)
      generalize hA : numB (r.take 6) = A at *
      generalize hC : numB ((r.drop 6).take 6) = C at *
      generalize hV : numB ((r.drop 12).take (C + 1)) = V at *
      have hx : V * 2 ^ (63 - A - C) < 18446744073709551616 := mul_pow_lt V A (63 - A - C) (by rw [show 64 - A - (63 - A - C) = C + 1 by omega]; exact hlt) (by omega)
      subst h1 h2
      rw [xor_fore, if_neg c1, c2, c3, c4]
      simp only [Bool.false_eq_true, if_false]
      rw [Nat.mul_div_cancel _ (Nat.two_pow_pos _), show 63 - A - (63 - A - C) = C by omega, show 64 - A - (63 - A - C) = C + 1 by omega, m1, m2, m3]
      have e : [true, true] ++ r.take 6 ++ (r.drop 6).take 6 ++ (r.drop 12).take (C + 1) = [true, true] ++ r.take (12 + (C + 1)) := by
        rw [show 12 + (C + 1) = 6 + (6 + (C + 1)) by omega, List.take_add (i := 6), List.take_add (i := 6), List.drop_drop]
        simp only [List.append_assoc]
      rw [e]
      refine ⟨xor_lt hs.1 hx, ?_, ?_, ?_⟩
      · rw [show 14 + (C + 1) = (12 + (C + 1)) + 2 by omega]; rfl
      · rw [List.length_append, List.length_take]; simp; omega
      · simp; omega
    · cases h
end Go.Proofs.YtboomamnenonoaaDoor.VaM
