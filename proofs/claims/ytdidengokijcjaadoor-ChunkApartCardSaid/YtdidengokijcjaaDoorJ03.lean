/-
  TIMES AS BITS: THE PLAIN LAW.
-/
import Derived.Test.YtdidengokijcjaaDoorJ01
import Derived.RowKit
/-
  TIMES AS BITS: THE PLAIN LAW.
-/
namespace Go.Proofs.YtdidengokijcjaaDoor.StM
set_option linter.unusedVariables false
open Go.RowKit BitsM

/-- What is known behind some times: how many, the last one, the last distance. -/
abbrev St := Int × Int × Int
def okI (x : Int) : Prop := -9223372036854775808 ≤ x ∧ x ≤ 9223372036854775807
theorem okI_wrap (x : Int) : okI (wrap64 x) := by unfold okI wrap64; omega
theorem wrap_ok {x : Int} (h : okI x) : wrap64 x = x := by unfold okI at h; unfold wrap64; omega
theorem wrap_addL (a b : Int) : wrap64 (wrap64 a + b) = wrap64 (a + b) := by unfold wrap64; omega
theorem wrap_addR (a b : Int) : wrap64 (a + wrap64 b) = wrap64 (a + b) := by unfold wrap64; omega
theorem wrap_subL (a b : Int) : wrap64 (wrap64 a - b) = wrap64 (a - b) := by unfold wrap64; omega
theorem wrap_subR (a b : Int) : wrap64 (a - wrap64 b) = wrap64 (a - b) := by unfold wrap64; omega
theorem wrap_wrap (a : Int) : wrap64 (wrap64 a) = wrap64 a := wrap_ok (okI_wrap a)
/-- A number of either sign as 64 bits. -/
def u64 (x : Int) : Nat := (x % 18446744073709551616).toNat
theorem u64_lt (x : Int) : u64 x < 18446744073709551616 := by unfold u64; omega
theorem u64_cast (x : Int) : ((u64 x : Nat) : Int) = x % 18446744073709551616 := by unfold u64; omega
theorem wrap_u64 {x : Int} (h : okI x) : wrap64 (u64 x : Int) = x := by rw [u64_cast]; unfold okI at h; unfold wrap64; omega
theorem u64_wrap {v : Nat} (h : v < 18446744073709551616) : u64 (wrap64 (v : Int)) = v := by unfold u64 wrap64; omega
theorem u64_nat {v : Nat} (h : v < 18446744073709551616) : u64 (v : Int) = v := by unfold u64; omega

/-- The class of a change. -/
def cls (c : Int) : Nat := if c = 0 then 0 else if -63 ≤ c ∧ c ≤ 64 then 1 else if -255 ≤ c ∧ c ≤ 256 then 2 else if -2047 ≤ c ∧ c ≤ 2048 then 3 else 4
def lowC (i : Nat) : Int := if i = 1 then -63 else if i = 2 then -255 else if i = 3 then -2047 else 0
def sizeC (i : Nat) : Nat := if i = 0 then 0 else if i = 1 then 7 else if i = 2 then 9 else if i = 3 then 12 else 64
def headLen (i : Nat) : Nat := if i < 4 then i + 1 else 4
def headC (i : Nat) : List Bool := if i < 4 then List.replicate i true ++ [false] else List.replicate 4 true
theorem headC_len (i : Nat) : (headC i).length = headLen i := by unfold headC headLen; split <;> simp
def valC (c : Int) : List Bool := msb (u64 (c - lowC (cls c))) (sizeC (cls c))
def codeC (c : Int) : List Bool := headC (cls c) ++ valC c
theorem codeC_len (c : Int) : (codeC c).length = headLen (cls c) + sizeC (cls c) := by unfold codeC valC; rw [List.length_append, headC_len, msb_length]
theorem cls_le (c : Int) : cls c ≤ 4 := by unfold cls; (repeat' split) <;> omega
/-- How many bits 1 there are ahead, four at most. -/
def ones (b : List Bool) : Nat := ((b.take 4).takeWhile id).length
theorem ones_le (b : List Bool) : ones b ≤ 4 := by
  unfold ones
  have := (List.takeWhile_sublist (p := id) (l := b.take 4)).length_le
  rw [List.length_take] at this; omega
theorem ones_len (b : List Bool) : ones b ≤ b.length := by
  unfold ones
  have := (List.takeWhile_sublist (p := id) (l := b.take 4)).length_le
  rw [List.length_take] at this; omega
theorem ones_nil : ones [] = 0 := rfl
theorem ones_false (b : List Bool) : ones (false :: b) = 0 := rfl
theorem takeWhile_rep (i : Nat) (r : List Bool) (h : r.head? ≠ some true) : (List.replicate i true ++ r).takeWhile id = List.replicate i true := by
  induction i with
  | zero =>
    cases r with
    | nil => rfl
    | cons x r => cases x with
      | true => exact absurd rfl h
      | false => rfl
  | succ i ih => rw [List.replicate_succ, List.cons_append, List.takeWhile_cons_of_pos (by rfl), ih]
theorem ones_rep (i : Nat) (r : List Bool) (h4 : i ≤ 4) (h : i = 4 ∨ r.head? ≠ some true) : ones (List.replicate i true ++ r) = i := by
  unfold ones
  rw [List.take_append, List.take_replicate, List.length_replicate, Nat.min_eq_right h4, takeWhile_rep, List.length_replicate]
  rcases h with h | h
  · subst h; simp
  · cases r with
    | nil => simp
    | cons x r =>
      cases h' : 4 - i with
      | zero => simp
      | succ k => simpa using h
/-- What the bits 1 ahead are, and what is behind them. -/
theorem ones_split (b : List Bool) : b.take (ones b) = List.replicate (ones b) true := by
  unfold ones
  have h1 : (b.take 4).takeWhile id <+: b := (List.takeWhile_prefix _).trans (List.take_prefix _ _)
  have h2 := List.prefix_iff_eq_take.1 h1
  rw [← h2]
  apply List.eq_replicate_of_mem
  intro x hx
  have h3 := List.all_takeWhile (p := (id : Bool → Bool)) (l := b.take 4)
  exact List.all_eq_true.1 h3 x hx
theorem ones_of (b : List Bool) (i : Nat) (h4 : i ≤ 4) (ht : b.take i = List.replicate i true) (h : i = 4 ∨ (b.drop i).head? ≠ some true) : ones b = i := by
  have e : b = List.replicate i true ++ b.drop i := by rw [← ht, List.take_append_drop]
  rw [e]
  exact ones_rep i _ h4 h
theorem takeWhile_next (l : List Bool) (h : (l.takeWhile id).length < l.length) : l[(l.takeWhile id).length]'h = false := by
  induction l with
  | nil => simp at h
  | cons x l ih =>
    cases x with
    | false => rfl
    | true =>
      have e : (List.takeWhile id (true :: l)) = true :: l.takeWhile id := by rw [List.takeWhile_cons_of_pos (by rfl)]
      simp only [e, List.length_cons] at h ⊢
      simpa using ih (by omega)
theorem ones_next (b : List Bool) (h4 : ones b < 4) (hl : ones b < b.length) : b[ones b]'hl = false := by
  have h1 : ((b.take 4).takeWhile id).length < (b.take 4).length := by
    rw [List.length_take]; unfold ones at h4 hl; omega
  have h2 := takeWhile_next _ h1
  rw [List.getElem_take] at h2
  exact h2
theorem head_of (b : List Bool) (h : headLen (ones b) ≤ b.length) : b.take (headLen (ones b)) = headC (ones b) := by
  unfold headLen headC at *
  by_cases h4 : ones b < 4
  · rw [if_pos h4] at *
    rw [if_pos h4, List.take_add_one, List.getElem?_eq_getElem (by omega), ones_next b h4 (by omega), ones_split]
    rfl
  · rw [if_neg h4] at *
    have h := ones_split b
    have e : ones b = 4 := by have := ones_le b; omega
    rw [if_neg h4]
    rw [e] at h; exact h
theorem ones_code (i : Nat) (h : i ≤ 4) (r : List Bool) : ones (headC i ++ r) = i := by
  unfold headC
  by_cases h4 : i < 4
  · rw [if_pos h4, List.append_assoc]
    exact ones_rep i _ h (.inr (by simp))
  · have e : i = 4 := by omega
    subst e
    rw [if_neg h4]
    exact ones_rep 4 _ h (.inl rfl)
/-- The change that bits tell, if there are as many. -/
def valB (b : List Bool) (i : Nat) : Int := wrap64 ((numB ((b.drop (headLen i)).take (sizeC i)) : Int) + lowC i)
def candC (b : List Bool) : Option Int := if b.length < headLen (ones b) + sizeC (ones b) then none else some (valB b (ones b))
theorem sizeC_le (i : Nat) : sizeC i ≤ 64 := by unfold sizeC; (repeat' split) <;> omega
theorem val_fits (c : Int) (h : okI c) : wrap64 (((u64 (c - lowC (cls c)) % 2 ^ sizeC (cls c) : Nat) : Int) + lowC (cls c)) = c := by
  unfold okI at h
  by_cases h0 : c = 0
  · subst h0; decide
  by_cases h1 : -63 ≤ c ∧ c ≤ 64
  · have e : cls c = 1 := by unfold cls; rw [if_neg h0, if_pos h1]
    rw [e]; show wrap64 (((u64 (c - -63) % 2 ^ 7 : Nat) : Int) + -63) = c
    unfold u64 wrap64; omega
  by_cases h2 : -255 ≤ c ∧ c ≤ 256
  · have e : cls c = 2 := by unfold cls; rw [if_neg h0, if_neg h1, if_pos h2]
    rw [e]; show wrap64 (((u64 (c - -255) % 2 ^ 9 : Nat) : Int) + -255) = c
    unfold u64 wrap64; omega
  by_cases h3 : -2047 ≤ c ∧ c ≤ 2048
  · have e : cls c = 3 := by unfold cls; rw [if_neg h0, if_neg h1, if_neg h2, if_pos h3]
    rw [e]; show wrap64 (((u64 (c - -2047) % 2 ^ 12 : Nat) : Int) + -2047) = c
    unfold u64 wrap64; omega
  · have e : cls c = 4 := by unfold cls; rw [if_neg h0, if_neg h1, if_neg h2, if_neg h3]
    rw [e]; show wrap64 (((u64 (c - 0) % 2 ^ 64 : Nat) : Int) + 0) = c
    unfold u64 wrap64; omega
theorem code_cand (c : Int) (h : okI c) (r : List Bool) : ones (codeC c ++ r) = cls c ∧ candC (codeC c ++ r) = some c := by
  have h1 : ones (codeC c ++ r) = cls c := by
    unfold codeC; rw [List.append_assoc]; exact ones_code _ (cls_le c) _
  refine ⟨h1, ?_⟩
  unfold candC
  rw [h1, if_neg (by rw [List.length_append, codeC_len]; omega)]
  congr 1
  unfold valB codeC
  rw [List.append_assoc, ← headC_len (cls c), List.drop_left]
  have e : (valC c ++ r).take (sizeC (cls c)) = valC c := by
    have : (valC c).length = sizeC (cls c) := by unfold valC; rw [msb_length]
    rw [← this, List.take_left]
  rw [e]
  unfold valC
  rw [numB_msb]
  exact val_fits c h
theorem val_back (v i : Nat) (hi : i ≤ 4) (hv : v < 2 ^ sizeC i) : u64 (wrap64 ((v : Int) + lowC i) - lowC i) = v := by
  have : i = 0 ∨ i = 1 ∨ i = 2 ∨ i = 3 ∨ i = 4 := by omega
  rcases this with rfl | rfl | rfl | rfl | rfl
  · have hv : v < 2 ^ 0 := hv
    show u64 (wrap64 ((v : Int) + 0) - 0) = v; unfold u64 wrap64; omega
  · have hv : v < 2 ^ 7 := hv
    show u64 (wrap64 ((v : Int) + -63) - -63) = v; unfold u64 wrap64; omega
  · have hv : v < 2 ^ 9 := hv
    show u64 (wrap64 ((v : Int) + -255) - -255) = v; unfold u64 wrap64; omega
  · have hv : v < 2 ^ 12 := hv
    show u64 (wrap64 ((v : Int) + -2047) - -2047) = v; unfold u64 wrap64; omega
  · have hv : v < 2 ^ 64 := hv
    show u64 (wrap64 ((v : Int) + 0) - 0) = v; unfold u64 wrap64; omega
theorem cand_code (b : List Bool) (c : Int) (h : candC b = some c) (hc : cls c = ones b) : okI c ∧ b.take (codeC c).length = codeC c ∧ (codeC c).length ≤ b.length := by
  unfold candC at h
  split at h
  · cases h
  rename_i hl
  injection h with h
  refine ⟨h ▸ okI_wrap _, ?_, by rw [codeC_len, hc]; omega⟩
  rw [codeC_len, hc, List.take_add]
  unfold codeC
  rw [hc, head_of b (by omega)]
  congr 1
  unfold valC
  rw [hc]
  have hlen : ((b.drop (headLen (ones b))).take (sizeC (ones b))).length = sizeC (ones b) := by
    rw [List.length_take, List.length_drop]; omega
  have hv := numB_lt ((b.drop (headLen (ones b))).take (sizeC (ones b)))
  rw [hlen] at hv
  rw [← h]
  unfold valB
  rw [val_back _ _ (ones_le b) hv]
  have := msb_numB ((b.drop (headLen (ones b))).take (sizeC (ones b)))
  rw [hlen] at this
  exact this.symm

/-- How a time changes the distance; the bits of a time; the state behind it. -/
def chg (s : St) (t : Int) : Int := wrap64 (wrap64 (t - s.2.1) - s.2.2)
def putS (s : St) (t : Int) : List Bool := if s.1 = 0 then msb (u64 t) 64 else codeC (chg s t)
def aftS (s : St) (t : Int) : St := if s.1 = 0 then (1, t, 0) else (wrap64 (s.1 + 1), t, wrap64 (t - s.2.1))
def okSt (s : St) : Prop := okI s.1 ∧ okI s.2.1 ∧ okI s.2.2
theorem okSt_aft {s : St} {t : Int} (hs : okSt s) (ht : okI t) : okSt (aftS s t) := by
  unfold aftS okSt
  split
  · exact ⟨show okI 1 by unfold okI; omega, ht, show okI 0 by unfold okI; omega⟩
  · exact ⟨okI_wrap _, ht, okI_wrap _⟩
theorem putS_len (s : St) (t : Int) : (putS s t).length ≤ 68 := by
  unfold putS
  split
  · rw [msb_length]; omega
  · rw [codeC_len]; have := sizeC_le (cls (chg s t)); unfold headLen; split <;> omega
/-- The time that bits tell, and how many bits it has. -/
def getS (b : List Bool) (s : St) : Option (Int × Nat) :=
  if s.1 = 0 then (if b.length < 64 then none else some (wrap64 (numB (b.take 64) : Int), 64))
  else (candC b).bind fun c => if cls c = ones b then some (wrap64 (wrap64 (s.2.1 + s.2.2) + c), headLen (ones b) + sizeC (ones b)) else none
theorem get_put (s : St) (t : Int) (hs : okSt s) (ht : okI t) (r : List Bool) : getS (putS s t ++ r) s = some (t, (putS s t).length) := by
  unfold getS putS
  by_cases h0 : s.1 = 0
  · have hm : (msb (u64 t) 64).length = 64 := msb_length _ _
    rw [if_pos h0, if_pos h0, if_neg (by rw [List.length_append, hm]; omega)]
    have e : (msb (u64 t) 64 ++ r).take 64 = msb (u64 t) 64 := by
      have := List.take_left (l₁ := msb (u64 t) 64) (l₂ := r)
      rw [hm] at this; exact this
    rw [e, numB_msb, hm, Nat.mod_eq_of_lt (u64_lt t), wrap_u64 ht]
  · obtain ⟨h1, h2⟩ := code_cand (chg s t) (okI_wrap _) r
    simp only [if_neg h0]
    rw [h2, h1, codeC_len]
    have e : wrap64 (wrap64 (s.2.1 + s.2.2) + chg s t) = t := by
      unfold chg
      rw [wrap_addL, wrap_subL, wrap_addR, show s.2.1 + s.2.2 + (t - s.2.1 - s.2.2) = t by omega, wrap_ok ht]
    generalize chg s t = c at *
    rw [Option.bind_some, if_pos rfl, e]
theorem put_get (b : List Bool) (s : St) (t : Int) (k : Nat) (hs : okSt s) (h : getS b s = some (t, k)) : okI t ∧ b.take k = putS s t ∧ k = (putS s t).length ∧ k ≤ b.length := by
  unfold getS at h
  unfold putS
  by_cases h0 : s.1 = 0
  · rw [if_pos h0] at h ⊢
    split at h
    · cases h
    rename_i hl
    injection h with h
    injection h with h1 h2
    subst h2
    refine ⟨h1 ▸ okI_wrap _, ?_, (msb_length _ _).symm, by omega⟩
    have hlen : (b.take 64).length = 64 := by rw [List.length_take]; omega
    have hv := numB_lt (b.take 64)
    rw [hlen] at hv
    rw [← h1, u64_wrap hv]
    have := msb_numB (b.take 64)
    rw [hlen] at this
    exact this.symm
  · rw [if_neg h0] at h ⊢
    cases hc : candC b with
    | none => rw [hc] at h; cases h
    | some c =>
      rw [hc] at h
      change (if cls c = ones b then _ else _) = _ at h
      split at h
      · rename_i hcl
        injection h with h
        injection h with h1 h2
        obtain ⟨g1, g2, g3⟩ := cand_code b c hc hcl
        have e : chg s t = c := by
          rw [← h1]
          unfold chg
          rw [wrap_addL, show wrap64 (wrap64 (s.2.1 + s.2.2 + c) - s.2.1) = wrap64 (s.2.1 + s.2.2 + c - s.2.1) from wrap_subL _ _, wrap_subL, show s.2.1 + s.2.2 + c - s.2.1 - s.2.2 = c by omega, wrap_ok g1]
        rw [e]
        rw [← hcl, ← codeC_len] at h2
        subst h2
        exact ⟨h1 ▸ okI_wrap _, g2, rfl, g3⟩
      · cases h
/-- All times. -/
def bitsAll : St → List Int → List Bool
  | _, [] => []
  | s, t :: l => putS s t ++ bitsAll (aftS s t) l
def stAll : St → List Int → St
  | s, [] => s
  | s, t :: l => stAll (aftS s t) l
theorem bitsAll_append (s : St) (a b : List Int) : bitsAll s (a ++ b) = bitsAll s a ++ bitsAll (stAll s a) b := by
  induction a generalizing s with
  | nil => rfl
  | cons t a ih => rw [List.cons_append, bitsAll, bitsAll, stAll, ih, List.append_assoc]
theorem stAll_append (s : St) (a b : List Int) : stAll s (a ++ b) = stAll (stAll s a) b := by
  induction a generalizing s with
  | nil => rfl
  | cons t a ih => rw [List.cons_append, stAll, stAll, ih]
theorem bitsAll_snoc (s : St) (a : List Int) (t : Int) : bitsAll s (a ++ [t]) = bitsAll s a ++ putS (stAll s a) t := by
  rw [bitsAll_append]; simp [bitsAll]
theorem stAll_snoc (s : St) (a : List Int) (t : Int) : stAll s (a ++ [t]) = aftS (stAll s a) t := by
  rw [stAll_append]; rfl
theorem okSt_all {s : St} {l : List Int} (hs : okSt s) (hl : ∀ t ∈ l, okI t) : okSt (stAll s l) := by
  induction l generalizing s with
  | nil => exact hs
  | cons t l ih => exact ih (okSt_aft hs (hl t (by simp))) (fun x hx => hl x (by simp [hx]))
theorem bitsAll_len (s : St) (l : List Int) : (bitsAll s l).length ≤ 68 * l.length := by
  induction l generalizing s with
  | nil => simp [bitsAll]
  | cons t l ih => unfold bitsAll; rw [List.length_append, List.length_cons]; have := ih (aftS s t); have := putS_len s t; omega
/-- So many times out of bits, and what is left. -/
def readS : List Bool → Nat → St → Option (List Int × List Bool)
  | b, 0, _ => some ([], b)
  | b, n + 1, s => match getS b s with
    | none => none
    | some (t, k) => (readS (b.drop k) n (aftS s t)).map fun x => (t :: x.1, x.2)
theorem read_all (s : St) (l : List Int) (r : List Bool) (hs : okSt s) (hl : ∀ t ∈ l, okI t) : readS (bitsAll s l ++ r) l.length s = some (l, r) := by
  induction l generalizing s with
  | nil => rfl
  | cons t l ih =>
    have ht := hl t (by simp)
    unfold bitsAll
    rw [List.length_cons, List.append_assoc]
    unfold readS
    rw [get_put s t hs ht]
    simp only [List.drop_left]
    rw [ih _ (okSt_aft hs ht) (fun x hx => hl x (by simp [hx]))]
    rfl
theorem all_read (b : List Bool) (n : Nat) (s : St) (l : List Int) (r : List Bool) (hs : okSt s) (h : readS b n s = some (l, r)) : l.length = n ∧ b = bitsAll s l ++ r ∧ ∀ t ∈ l, okI t := by
  induction n generalizing b s l with
  | zero =>
    unfold readS at h
    injection h with h
    injection h with h1 h2
    subst h1 h2
    exact ⟨rfl, rfl, fun t ht => by simp at ht⟩
  | succ n ih =>
    unfold readS at h
    cases hg : getS b s with
    | none => rw [hg] at h; cases h
    | some x =>
      obtain ⟨t, k⟩ := x
      rw [hg] at h
      simp only [] at h
      obtain ⟨g1, g2, g3, g4⟩ := put_get b s t k hs hg
      cases hr : readS (b.drop k) n (aftS s t) with
      | none => rw [hr] at h; cases h
      | some y =>
        obtain ⟨l', r'⟩ := y
        rw [hr] at h
        simp only [Option.map_some, Option.some.injEq, Prod.mk.injEq] at h
        obtain ⟨h1, h2⟩ := h
        subst h1 h2
        obtain ⟨i1, i2, i3⟩ := ih _ _ _ (okSt_aft hs g1) hr
        refine ⟨by simp [i1], ?_, fun x hx => ?_⟩
        · unfold bitsAll
          rw [List.append_assoc, ← i2, ← g2, List.take_append_drop]
        · rcases List.mem_cons.1 hx with hx | hx
          · rw [hx]; exact g1
          · exact i3 x hx
theorem byteB_msb (x : UInt8) : byteB (msb x.toNat 8) = x := by
  apply UInt8.toNat_inj.1
  rw [byteB_toNat _ (by rw [msb_length]; omega), numB_msb, msb_length]
  have := x.toNat_lt
  rw [Nat.mod_eq_of_lt (by omega)]; simp
theorem pack_unpack (l : List UInt8) : pack (unpack l) = l := by
  refine snocInd (P := fun l => pack (unpack l) = l) rfl (fun l x ih => ?_) l
  have e : unpack [x] = msb x.toNat 8 := by simp [unpack]
  rw [unpack_append, e, pack_new _ _ (by rw [unpack_length]; omega) (by rw [msb_length]; omega) (by rw [msb_length]; omega), ih, byteB_msb]
/-- What is left is nothing but filling. -/
theorem pack_clean (l : List UInt8) (b r : List Bool) (h : unpack l = b ++ r) (hr : (r.all (! ·) && decide (r.length < 8)) = true) : pack b = l := by
  rw [Bool.and_eq_true, decide_eq_true_iff] at hr
  have e : r = List.replicate r.length false := List.eq_replicate_of_mem fun x hx => by
    have := List.all_eq_true.1 hr.1 x hx
    simpa using this
  have hz := congrArg List.length h
  rw [unpack_length, List.length_append] at hz
  rw [← pack_unpack l, h, e]
  exact (pack_pad b _ hr.2 (by omega)).symm
end Go.Proofs.YtdidengokijcjaaDoor.StM
