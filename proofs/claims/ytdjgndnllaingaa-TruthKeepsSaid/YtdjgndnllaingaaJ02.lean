/-
  FRAMES: THE PLAIN LAW.
-/
import Derived.Test.YtdjgndnllaingaaJ01
/-
  FRAMES: THE PLAIN LAW.
-/
namespace Go.Proofs.Ytdjgndnllaingaa.FrM
set_option linter.unusedVariables false
open CrcM
/-- A number as few bytes. -/
def sm : Nat → Nat → List UInt8
  | 0, n => [UInt8.ofNat n]
  | f + 1, n => if n < 128 then [UInt8.ofNat n] else UInt8.ofNat (n % 128 + 128) :: sm f (n / 128)
/-- The number that bytes begin with, from byte i on. -/
def gs (i acc : Nat) : List UInt8 → Option (Nat × Nat)
  | [] => none
  | b :: r => if 10 ≤ i then none else if (i = 9 ∧ 1 < b.toNat) ∨ (0 < i ∧ b.toNat = 0) then none
    else if b.toNat < 128 then some (acc + b.toNat * 128 ^ i, i + 1) else gs (i + 1) (acc + (b.toNat - 128) * 128 ^ i) r
theorem byte_nat (n : Nat) (h : n < 256) : (UInt8.ofNat n).toNat = n := by simp; omega
theorem sm_pos (f n : Nat) : 1 ≤ (sm f n).length := by
  cases f with
  | zero => simp [sm]
  | succ f => unfold sm; split <;> simp
theorem sm_len (f n : Nat) : (sm f n).length ≤ f + 1 := by
  induction f generalizing n with
  | zero => simp [sm]
  | succ f ih => unfold sm; split <;> simp; exact ih _
theorem gs_sm (f : Nat) : ∀ (i n acc : Nat) (r : List UInt8), i + f = 9 → n < 2 * 128 ^ f → (0 < i → n ≠ 0) → gs i acc (sm f n ++ r) = some (acc + n * 128 ^ i, i + (sm f n).length) := by
  induction f with
  | zero =>
    intro i n acc r hi hn h0
    have h2 : n < 2 := by simpa using hn
    have hb := byte_nat n (by omega)
    show gs i acc (UInt8.ofNat n :: ([] ++ r)) = _
    unfold gs
    rw [hb, if_neg (by omega), if_neg (by rintro (h | h); omega; exact h0 h.1 h.2), if_pos (by omega)]
    rfl
  | succ f ih =>
    intro i n acc r hi hn h0
    unfold sm
    by_cases h : n < 128
    · have hb := byte_nat n (by omega)
      rw [if_pos h]
      show gs i acc (UInt8.ofNat n :: ([] ++ r)) = _
      unfold gs
      rw [hb, if_neg (by omega), if_neg (by rintro (h | h); omega; exact h0 h.1 h.2), if_pos (by omega)]
      rfl
    · have hb := byte_nat (n % 128 + 128) (by omega)
      rw [if_neg h]
      show gs i acc (UInt8.ofNat (n % 128 + 128) :: (sm f (n / 128) ++ r)) = _
      unfold gs
      rw [hb, if_neg (by omega), if_neg (by rintro (h | h) <;> omega), if_neg (by omega)]
      rw [ih (i + 1) (n / 128) _ r (by omega) (by rw [Nat.div_lt_iff_lt_mul (by omega)]; rw [Nat.pow_succ] at hn; omega) (by intro _; omega)]
      have e : (n % 128 + 128 - 128) * 128 ^ i + n / 128 * 128 ^ (i + 1) = n * 128 ^ i := by
        have e2 : n % 128 + 128 - 128 + n / 128 * 128 = n := by omega
        rw [Nat.pow_succ, Nat.mul_comm (128 ^ i) 128, ← Nat.mul_assoc, ← Nat.add_mul, e2]
      rw [Nat.add_assoc, e, List.length_cons, Nat.add_assoc, Nat.add_comm 1]
theorem gs_only (f : Nat) : ∀ (i acc : Nat) (l : List UInt8) (m k : Nat), i + f = 9 → gs i acc l = some (m, k) →
    ∃ n, m = acc + n * 128 ^ i ∧ n < 2 * 128 ^ f ∧ (∃ r, l = sm f n ++ r) ∧ k = i + (sm f n).length ∧ (0 < i → n ≠ 0) := by
  induction f with
  | zero =>
    intro i acc l m k hi h
    cases l with
    | nil => cases h
    | cons b r =>
      unfold gs at h
      rw [if_neg (by omega)] at h
      split at h
      · cases h
      rename_i hc
      rw [if_pos (by omega)] at h
      injection h with h
      injection h with h1 h2
      have hb : UInt8.ofNat b.toNat = b := UInt8.toNat_inj.1 (byte_nat _ b.toNat_lt)
      refine ⟨b.toNat, h1.symm, by simp; omega, ⟨r, ?_⟩, h2.symm, fun h e => hc (.inr ⟨h, e⟩)⟩
      show b :: r = UInt8.ofNat b.toNat :: ([] ++ r)
      rw [hb]; rfl
  | succ f ih =>
    intro i acc l m k hi h
    cases l with
    | nil => cases h
    | cons b r =>
      unfold gs at h
      rw [if_neg (by omega)] at h
      split at h
      · cases h
      rename_i hc
      have hb : UInt8.ofNat b.toNat = b := UInt8.toNat_inj.1 (byte_nat _ b.toNat_lt)
      have h128 : 0 < 128 ^ f := Nat.pos_of_ne_zero (by simp)
      split at h
      · rename_i hlt
        injection h with h
        injection h with h1 h2
        have e : sm (f + 1) b.toNat = [b] := by unfold sm; rw [if_pos hlt, hb]
        refine ⟨b.toNat, h1.symm, by rw [Nat.pow_succ]; omega, ⟨r, by rw [e]; rfl⟩, by rw [e, ← h2]; rfl, fun h e => hc (.inr ⟨h, e⟩)⟩
      · rename_i hge
        obtain ⟨n, h1, h2, ⟨r', h3⟩, h4, h5⟩ := ih (i + 1) _ r m k (by omega) h
        have hn0 := h5 (by omega)
        have hbl := b.toNat_lt
        have e1 : (b.toNat - 128 + 128 * n) % 128 = b.toNat - 128 := by omega
        have e2 : (b.toNat - 128 + 128 * n) / 128 = n := by omega
        have e : sm (f + 1) (b.toNat - 128 + 128 * n) = b :: sm f n := by
          show (if b.toNat - 128 + 128 * n < 128 then [UInt8.ofNat (b.toNat - 128 + 128 * n)] else UInt8.ofNat ((b.toNat - 128 + 128 * n) % 128 + 128) :: sm f ((b.toNat - 128 + 128 * n) / 128)) = _
          rw [if_neg (by omega), e1, e2, show b.toNat - 128 + 128 = b.toNat by omega, hb]
        refine ⟨b.toNat - 128 + 128 * n, ?_, by rw [Nat.pow_succ]; omega, ⟨r', by rw [e, h3]; rfl⟩, by rw [e, h4, List.length_cons]; omega, fun _ => by omega⟩
        rw [h1, Nat.pow_succ, Nat.add_assoc, Nat.add_mul, Nat.mul_comm (128 ^ i) 128, ← Nat.mul_assoc, Nat.mul_comm n 128]
/-- May bytes be the beginning of a number? -/
def unend (l : List UInt8) : Bool := l.all (fun b => decide (128 ≤ b.toNat)) && decide (l.length < 10)
theorem gs_unend : ∀ (l : List UInt8) (i acc : Nat), (l.all fun b => decide (128 ≤ b.toNat)) = true → gs i acc l = none
  | [], _, _, _ => rfl
  | b :: l, i, acc, h => by
    rw [List.all_cons, Bool.and_eq_true, decide_eq_true_iff] at h
    unfold gs
    split
    · rfl
    split
    · rfl
    rw [if_neg (by omega)]
    exact gs_unend l _ _ h.2
theorem sm_cut (f : Nat) : ∀ (n j : Nat), j < (sm f n).length → (((sm f n).take j).all fun b => decide (128 ≤ b.toNat)) = true := by
  induction f with
  | zero =>
    intro n j h
    have : j = 0 := by simp [sm] at h; exact h
    subst this; rfl
  | succ f ih =>
    intro n j h
    unfold sm at h ⊢
    split
    · rename_i hl
      rw [if_pos hl] at h
      have : j = 0 := by simp at h; exact h
      subst this; rfl
    · rename_i hl
      rw [if_neg hl] at h
      cases j with
      | zero => rfl
      | succ j =>
        rw [List.take_succ_cons, List.all_cons, byte_nat _ (by omega), decide_eq_true (by omega), Bool.true_and]
        exact ih _ _ (by simpa using h)
/-- A number, a text, a frame. -/
def small (n : Nat) : List UInt8 := sm 9 n
def text (b : List UInt8) : List UInt8 := small b.length ++ b
def frm (b : List UInt8) : List UInt8 := text b ++ ctail (text b)
def num64 : Nat := 18446744073709551616
theorem num_two : 2 * 128 ^ 9 = 18446744073709551616 := by decide
theorem gs_small (n : Nat) (r : List UInt8) (h : n < 18446744073709551616) : gs 0 0 (small n ++ r) = some (n, (small n).length) := by
  have := gs_sm 9 0 n 0 r rfl (by rw [num_two]; exact h) (fun h => by omega)
  simpa [small] using this
theorem gs_is {l : List UInt8} {n k : Nat} (h : gs 0 0 l = some (n, k)) : n < 18446744073709551616 ∧ k = (small n).length ∧ l = small n ++ l.drop k := by
  obtain ⟨m, h1, h2, ⟨r, h3⟩, h4, -⟩ := gs_only 9 0 0 l n k rfl h
  have e : n = m := by rw [h1]; simp
  subst e
  rw [num_two] at h2
  have hk : k = (small n).length := by rw [h4]; simp [small]
  refine ⟨h2, hk, ?_⟩
  have := List.drop_left (l₁ := small n) (l₂ := r)
  rw [show l = small n ++ r from h3, hk, this]
/-- What a frame has: what is in it, what is behind it, its shape: 0 whole, 1 short, 2 wrong. -/
def getF (s : List UInt8) (most : Int) : List UInt8 × List UInt8 × Nat :=
  match gs 0 0 s with
  | none => if unend s = true then ([], s, 1) else ([], s, 2)
  | some (n, k) => if most < 0 ∨ most < (n : Int) then ([], s, 2) else if s.length - k < n + 4 then ([], s, 1)
    else if ctail (s.take (k + n)) = (s.drop (k + n)).take 4 then ((s.drop k).take n, s.drop (k + n + 4), 0) else ([], s, 2)
theorem text_len (b : List UInt8) : (text b).length = (small b.length).length + b.length := by simp [text]
theorem frm_len (b : List UInt8) : (frm b).length = (small b.length).length + b.length + 4 := by unfold frm; rw [List.length_append, ctail_length, text_len]
theorem parts_get (b c r : List UInt8) (t : List UInt8) (ht : t.length = 4) (hc : c.length = b.length) (h : b.length < 18446744073709551616) (most : Int) :
    getF (small b.length ++ c ++ t ++ r) most = if most < 0 ∨ most < (b.length : Int) then ([], small b.length ++ c ++ t ++ r, 2) else if ctail (small b.length ++ c) = t then (c, r, 0) else ([], small b.length ++ c ++ t ++ r, 2) := by
  have h1 : gs 0 0 (small b.length ++ c ++ t ++ r) = some (b.length, (small b.length).length) := by
    rw [List.append_assoc, List.append_assoc]; exact gs_small _ _ h
  unfold getF
  rw [h1]
  simp only []
  by_cases hm : most < 0 ∨ most < (b.length : Int)
  · rw [if_pos hm, if_pos hm]
  rw [if_neg hm, if_neg hm]
  have hlen : (small b.length ++ c).length = (small b.length).length + b.length := by rw [List.length_append, hc]
  rw [if_neg (by simp only [List.length_append]; omega)]
  have e1 : (small b.length ++ c ++ t ++ r).take ((small b.length).length + b.length) = small b.length ++ c := by
    rw [← hlen, List.append_assoc (small b.length ++ c)]; exact List.take_left
  have e2 : (small b.length ++ c ++ t ++ r).drop ((small b.length).length + b.length) = t ++ r := by
    rw [← hlen, List.append_assoc (small b.length ++ c)]; exact List.drop_left
  have e3 : (t ++ r).take 4 = t := by rw [← ht]; exact List.take_left
  have e4 : (small b.length ++ c ++ t ++ r).drop ((small b.length).length + b.length + 4) = r := by
    rw [← List.drop_drop, e2, ← ht]; exact List.drop_left
  have e5 : ((small b.length ++ c ++ t ++ r).drop (small b.length).length).take b.length = c := by
    rw [List.append_assoc, List.append_assoc, List.drop_left, ← hc]; exact List.take_left
  rw [e1, e2, e3, e4, e5]
theorem getF_put (b r : List UInt8) (most : Int) (h : b.length < 9223372036854775808) (hm : (b.length : Int) ≤ most) : getF (frm b ++ r) most = (b, r, 0) := by
  have := parts_get b b r (ctail (text b)) rfl rfl (by omega) most
  rw [if_neg (by omega), if_pos (show ctail (small b.length ++ b) = ctail (text b) from rfl)] at this
  exact this
theorem getF_big (b r : List UInt8) (most : Int) (h : b.length < 9223372036854775808) (hm : most < (b.length : Int)) : getF (frm b ++ r) most = ([], frm b ++ r, 2) := by
  have := parts_get b b r (ctail (text b)) rfl rfl (by omega) most
  rw [if_pos (.inr hm)] at this
  exact this
theorem getF_not (s : List UInt8) (most : Int) (h : (getF s most).2.2 ≠ 0) : (getF s most).1 = [] ∧ (getF s most).2.1 = s := by
  unfold getF at h ⊢
  cases hg : gs 0 0 s with
  | none => simp only []; split <;> exact ⟨rfl, rfl⟩
  | some x =>
    obtain ⟨n, k⟩ := x
    rw [hg] at h
    simp only [] at h ⊢
    split
    · exact ⟨rfl, rfl⟩
    split
    · exact ⟨rfl, rfl⟩
    split
    · rename_i h1 h2 h3
      rw [if_neg h1, if_neg h2, if_pos h3] at h
      exact absurd rfl h
    · exact ⟨rfl, rfl⟩
theorem hk_take {n k : Nat} {r : List UInt8} {m : Nat} (h2 : k = (small n).length) : (small n ++ r).take (k + m) = small n ++ r.take m := by
  rw [h2, List.take_append, List.take_of_length_le (by omega), show (small n).length + m - (small n).length = m by omega]
theorem getF_only {s : List UInt8} {most : Int} {b r : List UInt8} (h : getF s most = (b, r, 0)) : s = frm b ++ r ∧ (b.length : Int) ≤ most := by
  unfold getF at h
  cases hg : gs 0 0 s with
  | none =>
    rw [hg] at h
    simp only [] at h
    split at h <;> (simp at h)
  | some x =>
    obtain ⟨n, k⟩ := x
    rw [hg] at h
    simp only [] at h
    obtain ⟨h1, h2, h3⟩ := gs_is hg
    split at h
    · simp at h
    rename_i hm
    split at h
    · simp at h
    rename_i hl
    split at h
    · rename_i hc
      simp only [Prod.mk.injEq, and_true] at h
      obtain ⟨rfl, rfl⟩ := h
      have hbl : ((s.drop k).take n).length = n := by rw [List.length_take, List.length_drop]; omega
      refine ⟨?_, by rw [hbl]; omega⟩
      have e1 : s.take (k + n) = small n ++ (s.drop k).take n := by
        conv => lhs; rw [h3]
        rw [hk_take h2]
      have e2 : text ((s.drop k).take n) = s.take (k + n) := by unfold text; rw [hbl, e1]
      unfold frm
      rw [e2, hc]
      rw [List.append_assoc, ← List.drop_drop (i := 4) (j := k + n), List.take_append_drop, List.take_append_drop]
    · simp at h
theorem getF_cut (b : List UInt8) (j : Nat) (most : Int) (h : b.length < 9223372036854775808) (hm : (b.length : Int) ≤ most) (hj : j < (frm b).length) : getF ((frm b).take j) most = ([], (frm b).take j, 1) := by
  have hl := frm_len b
  by_cases hk : j < (small b.length).length
  · have e : (frm b).take j = (small b.length).take j := by
      unfold frm text; rw [List.append_assoc, List.take_append_of_le_length (by omega)]
    have ha := sm_cut 9 b.length j hk
    rw [e]
    unfold getF
    rw [show gs 0 0 ((small b.length).take j) = none from gs_unend _ 0 0 ha]
    have hu : unend ((small b.length).take j) = true := by
      unfold unend
      rw [show ((small b.length).take j).all (fun b => decide (128 ≤ b.toNat)) = true from ha, Bool.true_and, decide_eq_true]
      have := sm_len 9 b.length
      rw [List.length_take]; show min j (sm 9 b.length).length < 10
      have hk' : j < (sm 9 b.length).length := hk
      omega
    simp only [hu, if_true]
  · have e : (frm b).take j = small b.length ++ ((b ++ ctail (text b)).take (j - (small b.length).length)) := by
      unfold frm text; rw [List.append_assoc, List.take_append, List.take_of_length_le (by omega)]
    have h1 : gs 0 0 ((frm b).take j) = some (b.length, (small b.length).length) := by rw [e]; exact gs_small _ _ (by omega)
    unfold getF
    rw [h1]
    simp only []
    rw [if_neg (by omega), if_pos (by rw [List.length_take]; omega)]
theorem byteStep_inj {c : BitVec 32} {x y : UInt8} (h : byteStep c x = byteStep c y) : x = y := by
  have h1 := tsteps_inj h
  have h2 : BitVec.ofNat 32 x.toNat = BitVec.ofNat 32 y.toNat := by
    have := congrArg (c ^^^ ·) h1
    simpa [← BitVec.xor_assoc] using this
  have h3 := congrArg BitVec.toNat h2
  rw [BitVec.toNat_ofNat, BitVec.toNat_ofNat] at h3
  have := x.toNat_lt
  have := y.toNat_lt
  exact UInt8.toNat_inj.1 (by omega)
theorem cof_one {p q : List UInt8} {x y : UInt8} (h : cof (p ++ x :: q) = cof (p ++ y :: q)) : x = y := by
  unfold cof con at h
  have h1 := congrArg (~~~ ·) h
  simp only [BitVec.not_not] at h1
  rw [crun_append, crun_append] at h1
  exact byteStep_inj (crun_inj q h1)
theorem getF_body (p q r : List UInt8) (x y : UInt8) (most : Int) (hxy : x ≠ y) (h : (p ++ x :: q).length < 9223372036854775808) (hm : ((p ++ x :: q).length : Int) ≤ most) :
    (getF (small (p ++ x :: q).length ++ (p ++ y :: q) ++ ctail (text (p ++ x :: q)) ++ r) most).2.2 = 2 := by
  have := parts_get (p ++ x :: q) (p ++ y :: q) r (ctail (text (p ++ x :: q))) rfl (by simp) (by omega) most
  rw [this, if_neg (by omega), if_neg]
  intro e
  have h2 := tail_inj e
  unfold text at h2
  rw [← List.append_assoc, ← List.append_assoc] at h2
  exact hxy (cof_one h2).symm
theorem getF_tail (b t r : List UInt8) (most : Int) (ht : t.length = 4) (hne : t ≠ ctail (text b)) (h : b.length < 9223372036854775808) (hm : (b.length : Int) ≤ most) :
    (getF (text b ++ t ++ r) most).2.2 = 2 := by
  have := parts_get b b r t ht rfl (by omega) most
  show (getF (small b.length ++ b ++ t ++ r) most).2.2 = 2
  rw [this, if_neg (by omega), if_neg (fun e => hne e.symm)]
end Go.Proofs.Ytdjgndnllaingaa.FrM
