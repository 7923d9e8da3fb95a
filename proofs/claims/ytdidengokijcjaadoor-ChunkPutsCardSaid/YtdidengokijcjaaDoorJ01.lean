/-
  THE PLAIN LAW OF THE CHECK (crc): no program is in sight here. A check of 32 bits, turned bit by bit; its table of halves; that it is linear, and that each turn can be turned back.
  FRAMES: THE PLAIN LAW.
  THE PLAIN LAW OF BITS: no program is in sight here. Bits are a list of booleans, the highest first.
  THE PLAIN LAW OF BITS, AND WHAT IS GOT.
  THE PLAIN LAW OF BITS: what is packed is unpacked.
-/
/-
  THE PLAIN LAW OF THE CHECK (crc): no program is in sight here. A check of 32 bits, turned bit by bit; its table of halves; that it is linear, and that each turn can be turned back.
-/
namespace Go.Proofs.YtdidengokijcjaaDoor.CrcM
def poly : BitVec 32 := 2197175160#32
def tstep (c : BitVec 32) : BitVec 32 := if c.getLsbD 0 then (c >>> 1) ^^^ poly else c >>> 1
def tsteps : Nat → BitVec 32 → BitVec 32
  | 0, c => c
  | n + 1, c => tstep (tsteps n c)
theorem tsteps_add (m n : Nat) (c : BitVec 32) : tsteps (m + n) c = tsteps n (tsteps m c) := by
  induction n with
  | zero => rfl
  | succ n ih => show tstep (tsteps (m + n) c) = tstep (tsteps n (tsteps m c)); rw [ih]
theorem tstep_xor (a b : BitVec 32) : tstep (a ^^^ b) = tstep a ^^^ tstep b := by
  unfold tstep
  have h : (a ^^^ b).getLsbD 0 = (a.getLsbD 0 ^^ b.getLsbD 0) := by simp
  rw [h]
  cases a.getLsbD 0 <;> cases b.getLsbD 0 <;> simp [BitVec.ushiftRight_xor_distrib]
  · rw [BitVec.xor_assoc]
  · rw [BitVec.xor_assoc, BitVec.xor_comm (b >>> 1) poly, BitVec.xor_assoc]
  · rw [BitVec.xor_assoc, BitVec.xor_comm poly, BitVec.xor_assoc]; simp
theorem tsteps_xor (n : Nat) (a b : BitVec 32) : tsteps n (a ^^^ b) = tsteps n a ^^^ tsteps n b := by
  induction n with
  | zero => rfl
  | succ n ih => show tstep _ = _; rw [ih, tstep_xor]; rfl
def unstep (d : BitVec 32) : BitVec 32 := if d.getLsbD 31 then ((d ^^^ poly) <<< 1) ||| 1#32 else d <<< 1
theorem unstep_tstep (c : BitVec 32) : unstep (tstep c) = c := by
  unfold tstep unstep
  by_cases h : c.getLsbD 0 = true
  · rw [if_pos h]
    have e : ((c >>> 1) ^^^ poly).getLsbD 31 = true := by simp [poly]
    rw [if_pos e, BitVec.xor_assoc, BitVec.xor_self, BitVec.xor_zero]
    apply BitVec.eq_of_getLsbD_eq
    intro i hi
    by_cases h0 : i = 0
    · subst h0; simp [h]
    · have e1 : 1 + (i - 1) = i := by omega
      simp [h0, hi, e1]
  · rw [if_neg h]
    have e : ¬ (c >>> 1).getLsbD 31 = true := by simp
    rw [if_neg e]
    apply BitVec.eq_of_getLsbD_eq
    intro i hi
    by_cases h0 : i = 0
    · subst h0; simpa using h
    · have e1 : 1 + (i - 1) = i := by omega
      simp [h0, hi, e1]
theorem tstep_inj {a b : BitVec 32} (h : tstep a = tstep b) : a = b := by rw [← unstep_tstep a, h, unstep_tstep]
theorem tsteps_inj {n : Nat} {a b : BitVec 32} (h : tsteps n a = tsteps n b) : a = b := by
  induction n with
  | zero => exact h
  | succ n ih => exact ih (tstep_inj h)
theorem tstep_even (c : BitVec 32) (h : c.getLsbD 0 = false) : tstep c = c >>> 1 := by unfold tstep; rw [h]; rfl
/-- Bits 0 behind fall out one by one. -/
theorem tsteps_shift (n : Nat) (c : BitVec 32) (h : ∀ i, i < n → c.getLsbD i = false) : tsteps n c = c >>> n := by
  induction n with
  | zero => simp [tsteps]
  | succ n ih =>
    show tstep (tsteps n c) = _
    rw [ih (fun i hi => h i (by omega)), tstep_even _ (by simpa using h n (by omega))]
    rw [← BitVec.shiftRight_add]
def half (i : BitVec 32) : BitVec 32 := tsteps 4 i
theorem nibble (c : BitVec 32) : tsteps 4 c = half (c &&& 15#32) ^^^ (c >>> 4) := by
  have e : c = (c &&& 15#32) ^^^ (c &&& 4294967280#32) := by
    have h1 : ∀ j : Fin 32, (15#32 : BitVec 32).getLsbD j.val = !(4294967280#32 : BitVec 32).getLsbD j.val := by decide
    apply BitVec.eq_of_getLsbD_eq
    intro i hi
    rw [BitVec.getLsbD_xor, BitVec.getLsbD_and, BitVec.getLsbD_and, h1 ⟨i, hi⟩]
    cases c.getLsbD i <;> cases (4294967280#32 : BitVec 32).getLsbD i <;> rfl
  conv => lhs; rw [e, tsteps_xor]
  unfold half
  congr 1
  rw [tsteps_shift 4]
  · apply BitVec.eq_of_getLsbD_eq
    intro i hi
    simp
    intro h1
    have hlt : i + 4 < 32 := by
      rcases Nat.lt_or_ge (4 + i) 32 with h | h
      · omega
      · rw [BitVec.getLsbD_of_ge _ _ h] at h1; cases h1
    have : ∀ j : Fin 28, (4294967280#32).getLsbD (4 + j.val) = true := by decide
    exact this ⟨i, by omega⟩
  · intro i hi
    have : ∀ j : Fin 4, (4294967280#32).getLsbD j.val = false := by decide
    simp [this ⟨i, hi⟩]
/-- One byte. -/
def byteStep (c : BitVec 32) (b : UInt8) : BitVec 32 := tsteps 8 (c ^^^ BitVec.ofNat 32 b.toNat)
def crun (c : BitVec 32) (l : List UInt8) : BitVec 32 := l.foldl byteStep c
theorem crun_append (c : BitVec 32) (a b : List UInt8) : crun c (a ++ b) = crun (crun c a) b := by simp [crun]
theorem crun_snoc (c : BitVec 32) (a : List UInt8) (x : UInt8) : crun c (a ++ [x]) = byteStep (crun c a) x := by simp [crun]
def con (c : BitVec 32) (l : List UInt8) : BitVec 32 := ~~~ (crun (~~~ c) l)
def cof (l : List UInt8) : BitVec 32 := con 0#32 l
theorem on_append (c : BitVec 32) (a b : List UInt8) : con c (a ++ b) = con (con c a) b := by
  unfold con; rw [crun_append, BitVec.not_not]
theorem on_nil (c : BitVec 32) : con c [] = c := by simp [con, crun]
/-- The lowest first. -/
def cbytes (c : BitVec 32) : List UInt8 :=
  [UInt8.ofNat (c.toNat % 256), UInt8.ofNat (c.toNat / 256 % 256), UInt8.ofNat (c.toNat / 65536 % 256), UInt8.ofNat (c.toNat / 16777216 % 256)]
def ctail (l : List UInt8) : List UInt8 := cbytes (cof l)
theorem ctail_length (l : List UInt8) : (ctail l).length = 4 := rfl
def cword (a b c d : UInt8) : BitVec 32 := BitVec.ofNat 32 (a.toNat + 256 * b.toNat + 65536 * c.toNat + 16777216 * d.toNat)
theorem word_bytes (c : BitVec 32) : cword (UInt8.ofNat (c.toNat % 256)) (UInt8.ofNat (c.toNat / 256 % 256)) (UInt8.ofNat (c.toNat / 65536 % 256)) (UInt8.ofNat (c.toNat / 16777216 % 256)) = c := by
  have hc := c.isLt
  apply BitVec.eq_of_toNat_eq
  simp [cword]
  omega
theorem cbytes_inj {c d : BitVec 32} (h : cbytes c = cbytes d) : c = d := by
  simp only [cbytes, List.cons.injEq, and_true] at h
  obtain ⟨h1, h2, h3, h4⟩ := h
  rw [← word_bytes c, ← word_bytes d, h1, h2, h3, h4]
theorem word_inj {a b c d a' b' c' d' : UInt8} (h : cword a b c d = cword a' b' c' d') : a = a' ∧ b = b' ∧ c = c' ∧ d = d' := by
  have h' := congrArg BitVec.toNat h
  simp [cword] at h'
  have := a.toNat_lt; have := b.toNat_lt; have := c.toNat_lt; have := d.toNat_lt
  have := a'.toNat_lt; have := b'.toNat_lt; have := c'.toNat_lt; have := d'.toNat_lt
  refine ⟨?_, ?_, ?_, ?_⟩ <;> apply UInt8.toNat_inj.1 <;> omega
theorem tsteps8_up (b : UInt8) : tsteps 8 (BitVec.ofNat 32 b.toNat <<< 8) = BitVec.ofNat 32 b.toNat := by
  rw [tsteps_shift]
  · have := b.toNat_lt
    apply BitVec.eq_of_toNat_eq
    simp [Nat.shiftLeft_eq, Nat.shiftRight_eq_div_pow]
    omega
  · intro i hi; simp [hi]
theorem fold_byte (n : Nat) (c : BitVec 32) (b : UInt8) : tsteps n (tsteps 8 c ^^^ BitVec.ofNat 32 b.toNat) = tsteps (8 + n) (c ^^^ BitVec.ofNat 32 b.toNat <<< 8) := by
  rw [tsteps_add, tsteps_xor 8, tsteps8_up]
theorem tsteps8_lo (n : Nat) (s : BitVec 32) (b : UInt8) : tsteps n (byteStep s b) = tsteps (8 + n) (s ^^^ BitVec.ofNat 32 b.toNat) := by
  unfold byteStep; rw [tsteps_add]
theorem up8 (b : UInt8) (k n : Nat) (hk : k ≤ 24) : tsteps (k + n) (BitVec.ofNat 32 b.toNat <<< k) = tsteps n (BitVec.ofNat 32 b.toNat) := by
  have e : tsteps k (BitVec.ofNat 32 b.toNat <<< k) = BitVec.ofNat 32 b.toNat := by
    rw [tsteps_shift]
    · have := b.toNat_lt
      apply BitVec.eq_of_toNat_eq
      have h2 : 2 ^ k ≤ 2 ^ 24 := Nat.pow_le_pow_right (by omega) hk
      have h3 : b.toNat * 2 ^ k < 4294967296 := by
        have := Nat.mul_le_mul (show b.toNat ≤ 255 by omega) h2
        omega
      have h4 : b.toNat % 4294967296 = b.toNat := Nat.mod_eq_of_lt (by omega)
      simp [Nat.shiftLeft_eq, Nat.shiftRight_eq_div_pow, h4, Nat.mod_eq_of_lt h3, Nat.mul_div_cancel _ (Nat.two_pow_pos k)]
    · intro i hi; simp [hi]
  rw [tsteps_add, e]
def wordx (a b c d : UInt8) : BitVec 32 := BitVec.ofNat 32 a.toNat ^^^ BitVec.ofNat 32 b.toNat <<< 8 ^^^ BitVec.ofNat 32 c.toNat <<< 16 ^^^ BitVec.ofNat 32 d.toNat <<< 24
theorem crun_four (s : BitVec 32) (a b c d : UInt8) : crun s [a, b, c, d] = tsteps 32 (s ^^^ wordx a b c d) := by
  show byteStep (byteStep (byteStep (byteStep s a) b) c) d = _
  have h1 : byteStep (byteStep (byteStep (byteStep s a) b) c) d = tsteps 8 (tsteps 8 (tsteps 8 (tsteps 8 (s ^^^ BitVec.ofNat 32 a.toNat) ^^^ BitVec.ofNat 32 b.toNat) ^^^ BitVec.ofNat 32 c.toNat) ^^^ BitVec.ofNat 32 d.toNat) := rfl
  rw [h1]
  unfold wordx
  rw [← BitVec.xor_assoc, ← BitVec.xor_assoc, ← BitVec.xor_assoc]
  simp only [tsteps_xor]
  rw [up8 b 8 24 (by omega), up8 c 16 16 (by omega), up8 d 24 8 (by omega)]
  simp only [← tsteps_add]
theorem nat_xor_add (a b k : Nat) (ha : a < 2 ^ k) : a ^^^ (b * 2 ^ k) = a + b * 2 ^ k := by
  have h := Nat.two_pow_add_eq_or_of_lt ha b
  have h2 : a ^^^ (2 ^ k * b) = 2 ^ k * b ||| a := by
    apply Nat.eq_of_testBit_eq
    intro i
    rw [Nat.testBit_xor, Nat.testBit_or, Nat.testBit_two_pow_mul]
    rcases Nat.lt_or_ge i k with hi | hi
    · have : decide (i ≥ k) = false := by simp; omega
      rw [this]; simp
    · rw [Nat.testBit_lt_two_pow (Nat.lt_of_lt_of_le ha (Nat.pow_le_pow_right (by omega) hi))]; simp
  rw [Nat.mul_comm b, h2, ← h, Nat.add_comm]
theorem word_xor (a b c d : UInt8) : cword a b c d = wordx a b c d := by
  have := a.toNat_lt; have := b.toNat_lt; have := c.toNat_lt; have := d.toNat_lt
  apply BitVec.eq_of_toNat_eq
  have e1 : (BitVec.ofNat 32 a.toNat).toNat = a.toNat := by simp
  have e2 : (BitVec.ofNat 32 b.toNat <<< 8).toNat = b.toNat * 2 ^ 8 := by simp [Nat.shiftLeft_eq]; omega
  have e3 : (BitVec.ofNat 32 c.toNat <<< 16).toNat = c.toNat * 2 ^ 16 := by simp [Nat.shiftLeft_eq]; omega
  have e4 : (BitVec.ofNat 32 d.toNat <<< 24).toNat = d.toNat * 2 ^ 24 := by simp [Nat.shiftLeft_eq]; omega
  unfold cword wordx
  rw [BitVec.toNat_xor, BitVec.toNat_xor, BitVec.toNat_xor, e1, e2, e3, e4]
  rw [nat_xor_add a.toNat b.toNat 8 (by omega), nat_xor_add _ c.toNat 16 (by omega), nat_xor_add _ d.toNat 24 (by omega)]
  simp; omega
theorem crun_inj {a b : BitVec 32} (l : List UInt8) (h : crun a l = crun b l) : a = b := by
  induction l generalizing a b with
  | nil => exact h
  | cons x l ih =>
    have h1 := ih (a := byteStep a x) (b := byteStep b x) h
    have h2 := tsteps_inj h1
    have := congrArg (· ^^^ BitVec.ofNat 32 x.toNat) h2
    simpa [BitVec.xor_assoc] using this

theorem crun_four_inj {s : BitVec 32} {a b c d a' b' c' d' : UInt8} (h : crun s [a, b, c, d] = crun s [a', b', c', d']) : a = a' ∧ b = b' ∧ c = c' ∧ d = d' := by
  rw [crun_four, crun_four] at h
  have h1 := tsteps_inj h
  have h2 := congrArg (s ^^^ ·) h1
  simp only [← BitVec.xor_assoc, BitVec.xor_self, BitVec.zero_xor] at h2
  rw [← word_xor, ← word_xor] at h2
  exact word_inj h2
/-- UP TO FOUR NEIGHBOURS that are others are told. -/
theorem of_burst (p q : List UInt8) {a b c d a' b' c' d' : UInt8} (h : cof (p ++ [a, b, c, d] ++ q) = cof (p ++ [a', b', c', d'] ++ q)) : a = a' ∧ b = b' ∧ c = c' ∧ d = d' := by
  unfold cof con at h
  have h1 := congrArg (~~~ ·) h
  simp only [BitVec.not_not] at h1
  rw [crun_append, crun_append, crun_append, crun_append] at h1
  exact crun_four_inj (crun_inj q h1)
/-- Bytes with their check behind them. -/
theorem of_tail (l : List UInt8) : cof (l ++ ctail l) = ~~~ (tsteps 32 (BitVec.allOnes 32)) := by
  unfold cof con
  rw [crun_append]
  have e : ctail l = cbytes (~~~ (crun (~~~ 0#32) l)) := rfl
  rw [e]
  generalize crun (~~~ 0#32) l = s
  unfold cbytes
  rw [crun_four, ← word_xor, word_bytes]
  congr 2
  apply BitVec.eq_of_getLsbD_eq
  intro i hi
  rw [BitVec.getLsbD_xor, BitVec.getLsbD_not, BitVec.getLsbD_allOnes]
  simp only [hi, decide_true, Bool.true_and]
  cases s.getLsbD i <;> rfl
theorem tail_inj {a b : List UInt8} (h : ctail a = ctail b) : cof a = cof b := cbytes_inj h
theorem byteStep_xor3 (c1 c2 c3 : BitVec 32) (x y z : UInt8) : byteStep (c1 ^^^ c2 ^^^ c3) (x ^^^ y ^^^ z) = byteStep c1 x ^^^ byteStep c2 y ^^^ byteStep c3 z := by
  unfold byteStep
  rw [← tsteps_xor, ← tsteps_xor]
  congr 1
  have e : BitVec.ofNat 32 (x ^^^ y ^^^ z).toNat = BitVec.ofNat 32 x.toNat ^^^ BitVec.ofNat 32 y.toNat ^^^ BitVec.ofNat 32 z.toNat := by
    apply BitVec.eq_of_toNat_eq
    have := x.toNat_lt; have := y.toNat_lt; have := z.toNat_lt; have := (x ^^^ y ^^^ z).toNat_lt
    simp only [BitVec.toNat_xor, BitVec.toNat_ofNat]
    rw [Nat.mod_eq_of_lt (by omega), Nat.mod_eq_of_lt (by omega), Nat.mod_eq_of_lt (by omega), Nat.mod_eq_of_lt (by omega)]
    simp
  rw [e]
  generalize BitVec.ofNat 32 x.toNat = u
  generalize BitVec.ofNat 32 y.toNat = v
  generalize BitVec.ofNat 32 z.toNat = w
  simp only [BitVec.xor_assoc]
  congr 1
  rw [← BitVec.xor_assoc c3, BitVec.xor_comm c3 u, BitVec.xor_assoc, ← BitVec.xor_assoc c2, BitVec.xor_comm c2 u, BitVec.xor_assoc]
  congr 2
  rw [← BitVec.xor_assoc c3, BitVec.xor_comm c3 v, BitVec.xor_assoc]
end Go.Proofs.YtdidengokijcjaaDoor.CrcM
/-
  FRAMES: THE PLAIN LAW.
-/
namespace Go.Proofs.YtdidengokijcjaaDoor.FrM
set_option linter.unusedVariables false
open CrcM
/-- A number as few bytes. -/
def sm : Nat → Nat → List UInt8
  | 0, n => [UInt8.ofNat n]
  | f + 1, n => if n < 128 then [UInt8.ofNat n] else UInt8.ofNat (n % 128 + 128) :: sm f (n / 128)
/-- The number that bytes begin with, from byte i on. -/
def gs (i acc : Nat) : List UInt8 → Option (Nat × Nat)
  | [] => none
  | b :: r => if 10 ≤ i then none else if (i = 9 ∧ 1 < b.toNat) ∨ (0 < i ∧ b.toNat = 0) then none
    else if b.toNat < 128 then some (acc + b.toNat * 128 ^ i, i + 1) else gs (i + 1) (acc + (b.toNat - 128) * 128 ^ i) r
theorem byte_nat (n : Nat) (h : n < 256) : (UInt8.ofNat n).toNat = n := by simp; omega
theorem sm_pos (f n : Nat) : 1 ≤ (sm f n).length := by
  cases f with
  | zero => simp [sm]
  | succ f => unfold sm; split <;> simp
theorem sm_len (f n : Nat) : (sm f n).length ≤ f + 1 := by
  induction f generalizing n with
  | zero => simp [sm]
  | succ f ih => unfold sm; split <;> simp; exact ih _
theorem gs_sm (f : Nat) : ∀ (i n acc : Nat) (r : List UInt8), i + f = 9 → n < 2 * 128 ^ f → (0 < i → n ≠ 0) → gs i acc (sm f n ++ r) = some (acc + n * 128 ^ i, i + (sm f n).length) := by
  induction f with
  | zero =>
    intro i n acc r hi hn h0
    have h2 : n < 2 := by simpa using hn
    have hb := byte_nat n (by omega)
    show gs i acc (UInt8.ofNat n :: ([] ++ r)) = _
    unfold gs
    rw [hb, if_neg (by omega), if_neg (by rintro (h | h); omega; exact h0 h.1 h.2), if_pos (by omega)]
    rfl
  | succ f ih =>
    intro i n acc r hi hn h0
    unfold sm
    by_cases h : n < 128
    · have hb := byte_nat n (by omega)
      rw [if_pos h]
      show gs i acc (UInt8.ofNat n :: ([] ++ r)) = _
      unfold gs
      rw [hb, if_neg (by omega), if_neg (by rintro (h | h); omega; exact h0 h.1 h.2), if_pos (by omega)]
      rfl
    · have hb := byte_nat (n % 128 + 128) (by omega)
      rw [if_neg h]
      show gs i acc (UInt8.ofNat (n % 128 + 128) :: (sm f (n / 128) ++ r)) = _
      unfold gs
      rw [hb, if_neg (by omega), if_neg (by rintro (h | h) <;> omega), if_neg (by omega)]
      rw [ih (i + 1) (n / 128) _ r (by omega) (by rw [Nat.div_lt_iff_lt_mul (by omega)]; rw [Nat.pow_succ] at hn; omega) (by intro _; omega)]
      have e : (n % 128 + 128 - 128) * 128 ^ i + n / 128 * 128 ^ (i + 1) = n * 128 ^ i := by
        have e2 : n % 128 + 128 - 128 + n / 128 * 128 = n := by omega
        rw [Nat.pow_succ, Nat.mul_comm (128 ^ i) 128, ← Nat.mul_assoc, ← Nat.add_mul, e2]
      rw [Nat.add_assoc, e, List.length_cons, Nat.add_assoc, Nat.add_comm 1]
theorem gs_only (f : Nat) : ∀ (i acc : Nat) (l : List UInt8) (m k : Nat), i + f = 9 → gs i acc l = some (m, k) →
    ∃ n, m = acc + n * 128 ^ i ∧ n < 2 * 128 ^ f ∧ (∃ r, l = sm f n ++ r) ∧ k = i + (sm f n).length ∧ (0 < i → n ≠ 0) := by
  induction f with
  | zero =>
    intro i acc l m k hi h
    cases l with
    | nil => cases h
    | cons b r =>
      unfold gs at h
      rw [if_neg (by omega)] at h
      split at h
      · cases h
      rename_i hc
      rw [if_pos (by omega)] at h
      injection h with h
      injection h with h1 h2
      have hb : UInt8.ofNat b.toNat = b := UInt8.toNat_inj.1 (byte_nat _ b.toNat_lt)
      refine ⟨b.toNat, h1.symm, by simp; omega, ⟨r, ?_⟩, h2.symm, fun h e => hc (.inr ⟨h, e⟩)⟩
      show b :: r = UInt8.ofNat b.toNat :: ([] ++ r)
      rw [hb]; rfl
  | succ f ih =>
    intro i acc l m k hi h
    cases l with
    | nil => cases h
    | cons b r =>
      unfold gs at h
      rw [if_neg (by omega)] at h
      split at h
      · cases h
      rename_i hc
      have hb : UInt8.ofNat b.toNat = b := UInt8.toNat_inj.1 (byte_nat _ b.toNat_lt)
      have h128 : 0 < 128 ^ f := Nat.pos_of_ne_zero (by simp)
      split at h
      · rename_i hlt
        injection h with h
        injection h with h1 h2
        have e : sm (f + 1) b.toNat = [b] := by unfold sm; rw [if_pos hlt, hb]
        refine ⟨b.toNat, h1.symm, by rw [Nat.pow_succ]; omega, ⟨r, by rw [e]; rfl⟩, by rw [e, ← h2]; rfl, fun h e => hc (.inr ⟨h, e⟩)⟩
      · rename_i hge
        obtain ⟨n, h1, h2, ⟨r', h3⟩, h4, h5⟩ := ih (i + 1) _ r m k (by omega) h
        have hn0 := h5 (by omega)
        have hbl := b.toNat_lt
        have e1 : (b.toNat - 128 + 128 * n) % 128 = b.toNat - 128 := by omega
        have e2 : (b.toNat - 128 + 128 * n) / 128 = n := by omega
        have e : sm (f + 1) (b.toNat - 128 + 128 * n) = b :: sm f n := by
          show (if b.toNat - 128 + 128 * n < 128 then [UInt8.ofNat (b.toNat - 128 + 128 * n)] else UInt8.ofNat ((b.toNat - 128 + 128 * n) % 128 + 128) :: sm f ((b.toNat - 128 + 128 * n) / 128)) = _
          rw [if_neg (by omega), e1, e2, show b.toNat - 128 + 128 = b.toNat by omega, hb]
        refine ⟨b.toNat - 128 + 128 * n, ?_, by rw [Nat.pow_succ]; omega, ⟨r', by rw [e, h3]; rfl⟩, by rw [e, h4, List.length_cons]; omega, fun _ => by omega⟩
        rw [h1, Nat.pow_succ, Nat.add_assoc, Nat.add_mul, Nat.mul_comm (128 ^ i) 128, ← Nat.mul_assoc, Nat.mul_comm n 128]
/-- May bytes be the beginning of a number? -/
def unend (l : List UInt8) : Bool := l.all (fun b => decide (128 ≤ b.toNat)) && decide (l.length < 10)
theorem gs_unend : ∀ (l : List UInt8) (i acc : Nat), (l.all fun b => decide (128 ≤ b.toNat)) = true → gs i acc l = none
  | [], _, _, _ => rfl
  | b :: l, i, acc, h => by
    rw [List.all_cons, Bool.and_eq_true, decide_eq_true_iff] at h
    unfold gs
    split
    · rfl
    split
    · rfl
    rw [if_neg (by omega)]
    exact gs_unend l _ _ h.2
theorem sm_cut (f : Nat) : ∀ (n j : Nat), j < (sm f n).length → (((sm f n).take j).all fun b => decide (128 ≤ b.toNat)) = true := by
  induction f with
  | zero =>
    intro n j h
    have : j = 0 := by simp [sm] at h; exact h
    subst this; rfl
  | succ f ih =>
    intro n j h
    unfold sm at h ⊢
    split
    · rename_i hl
      rw [if_pos hl] at h
      have : j = 0 := by simp at h; exact h
      subst this; rfl
    · rename_i hl
      rw [if_neg hl] at h
      cases j with
      | zero => rfl
      | succ j =>
        rw [List.take_succ_cons, List.all_cons, byte_nat _ (by omega), decide_eq_true (by omega), Bool.true_and]
        exact ih _ _ (by simpa using h)
/-- A number, a text, a frame. -/
def small (n : Nat) : List UInt8 := sm 9 n
def text (b : List UInt8) : List UInt8 := small b.length ++ b
def frm (b : List UInt8) : List UInt8 := text b ++ ctail (text b)
def num64 : Nat := 18446744073709551616
theorem num_two : 2 * 128 ^ 9 = 18446744073709551616 := by decide
theorem gs_small (n : Nat) (r : List UInt8) (h : n < 18446744073709551616) : gs 0 0 (small n ++ r) = some (n, (small n).length) := by
  have := gs_sm 9 0 n 0 r rfl (by rw [num_two]; exact h) (fun h => by omega)
  simpa [small] using this
theorem gs_is {l : List UInt8} {n k : Nat} (h : gs 0 0 l = some (n, k)) : n < 18446744073709551616 ∧ k = (small n).length ∧ l = small n ++ l.drop k := by
  obtain ⟨m, h1, h2, ⟨r, h3⟩, h4, -⟩ := gs_only 9 0 0 l n k rfl h
  have e : n = m := by rw [h1]; simp
  subst e
  rw [num_two] at h2
  have hk : k = (small n).length := by rw [h4]; simp [small]
  refine ⟨h2, hk, ?_⟩
  have := List.drop_left (l₁ := small n) (l₂ := r)
  rw [show l = small n ++ r from h3, hk, this]
/-- What a frame has: what is in it, what is behind it, its shape: 0 whole, 1 short, 2 wrong. -/
def getF (s : List UInt8) (most : Int) : List UInt8 × List UInt8 × Nat :=
  match gs 0 0 s with
  | none => if unend s = true then ([], s, 1) else ([], s, 2)
  | some (n, k) => if most < 0 ∨ most < (n : Int) then ([], s, 2) else if s.length - k < n + 4 then ([], s, 1)
    else if ctail (s.take (k + n)) = (s.drop (k + n)).take 4 then ((s.drop k).take n, s.drop (k + n + 4), 0) else ([], s, 2)
theorem text_len (b : List UInt8) : (text b).length = (small b.length).length + b.length := by simp [text]
theorem frm_len (b : List UInt8) : (frm b).length = (small b.length).length + b.length + 4 := by unfold frm; rw [List.length_append, ctail_length, text_len]
theorem parts_get (b c r : List UInt8) (t : List UInt8) (ht : t.length = 4) (hc : c.length = b.length) (h : b.length < 18446744073709551616) (most : Int) :
    getF (small b.length ++ c ++ t ++ r) most = if most < 0 ∨ most < (b.length : Int) then ([], small b.length ++ c ++ t ++ r, 2) else if ctail (small b.length ++ c) = t then (c, r, 0) else ([], small b.length ++ c ++ t ++ r, 2) := by
  have h1 : gs 0 0 (small b.length ++ c ++ t ++ r) = some (b.length, (small b.length).length) := by
    rw [List.append_assoc, List.append_assoc]; exact gs_small _ _ h
  unfold getF
  rw [h1]
  simp only []
  by_cases hm : most < 0 ∨ most < (b.length : Int)
  · rw [if_pos hm, if_pos hm]
  rw [if_neg hm, if_neg hm]
  have hlen : (small b.length ++ c).length = (small b.length).length + b.length := by rw [List.length_append, hc]
  rw [if_neg (by simp only [List.length_append]; omega)]
  have e1 : (small b.length ++ c ++ t ++ r).take ((small b.length).length + b.length) = small b.length ++ c := by
    rw [← hlen, List.append_assoc (small b.length ++ c)]; exact List.take_left
  have e2 : (small b.length ++ c ++ t ++ r).drop ((small b.length).length + b.length) = t ++ r := by
    rw [← hlen, List.append_assoc (small b.length ++ c)]; exact List.drop_left
  have e3 : (t ++ r).take 4 = t := by rw [← ht]; exact List.take_left
  have e4 : (small b.length ++ c ++ t ++ r).drop ((small b.length).length + b.length + 4) = r := by
    rw [← List.drop_drop, e2, ← ht]; exact List.drop_left
  have e5 : ((small b.length ++ c ++ t ++ r).drop (small b.length).length).take b.length = c := by
    rw [List.append_assoc, List.append_assoc, List.drop_left, ← hc]; exact List.take_left
  rw [e1, e2, e3, e4, e5]
theorem getF_put (b r : List UInt8) (most : Int) (h : b.length < 9223372036854775808) (hm : (b.length : Int) ≤ most) : getF (frm b ++ r) most = (b, r, 0) := by
  have := parts_get b b r (ctail (text b)) rfl rfl (by omega) most
  rw [if_neg (by omega), if_pos (show ctail (small b.length ++ b) = ctail (text b) from rfl)] at this
  exact this
theorem getF_big (b r : List UInt8) (most : Int) (h : b.length < 9223372036854775808) (hm : most < (b.length : Int)) : getF (frm b ++ r) most = ([], frm b ++ r, 2) := by
  have := parts_get b b r (ctail (text b)) rfl rfl (by omega) most
  rw [if_pos (.inr hm)] at this
  exact this
theorem getF_not (s : List UInt8) (most : Int) (h : (getF s most).2.2 ≠ 0) : (getF s most).1 = [] ∧ (getF s most).2.1 = s := by
  unfold getF at h ⊢
  cases hg : gs 0 0 s with
  | none => simp only []; split <;> exact ⟨rfl, rfl⟩
  | some x =>
    obtain ⟨n, k⟩ := x
    rw [hg] at h
    simp only [] at h ⊢
    split
    · exact ⟨rfl, rfl⟩
    split
    · exact ⟨rfl, rfl⟩
    split
    · rename_i h1 h2 h3
      rw [if_neg h1, if_neg h2, if_pos h3] at h
      exact absurd rfl h
    · exact ⟨rfl, rfl⟩
theorem hk_take {n k : Nat} {r : List UInt8} {m : Nat} (h2 : k = (small n).length) : (small n ++ r).take (k + m) = small n ++ r.take m := by
  rw [h2, List.take_append, List.take_of_length_le (by omega), show (small n).length + m - (small n).length = m by omega]
theorem getF_only {s : List UInt8} {most : Int} {b r : List UInt8} (h : getF s most = (b, r, 0)) : s = frm b ++ r ∧ (b.length : Int) ≤ most := by
  unfold getF at h
  cases hg : gs 0 0 s with
  | none =>
    rw [hg] at h
    simp only [] at h
    split at h <;> (simp at h)
  | some x =>
    obtain ⟨n, k⟩ := x
    rw [hg] at h
    simp only [] at h
    obtain ⟨h1, h2, h3⟩ := gs_is hg
    split at h
    · simp at h
    rename_i hm
    split at h
    · simp at h
    rename_i hl
    split at h
    · rename_i hc
      simp only [Prod.mk.injEq, and_true] at h
      obtain ⟨rfl, rfl⟩ := h
      have hbl : ((s.drop k).take n).length = n := by rw [List.length_take, List.length_drop]; omega
      refine ⟨?_, by rw [hbl]; omega⟩
      have e1 : s.take (k + n) = small n ++ (s.drop k).take n := by
        conv => lhs; rw [h3]
        rw [hk_take h2]
      have e2 : text ((s.drop k).take n) = s.take (k + n) := by unfold text; rw [hbl, e1]
      unfold frm
      rw [e2, hc]
      rw [List.append_assoc, ← List.drop_drop (i := 4) (j := k + n), List.take_append_drop, List.take_append_drop]
    · simp at h
theorem getF_cut (b : List UInt8) (j : Nat) (most : Int) (h : b.length < 9223372036854775808) (hm : (b.length : Int) ≤ most) (hj : j < (frm b).length) : getF ((frm b).take j) most = ([], (frm b).take j, 1) := by
  have hl := frm_len b
  by_cases hk : j < (small b.length).length
  · have e : (frm b).take j = (small b.length).take j := by
      unfold frm text; rw [List.append_assoc, List.take_append_of_le_length (by omega)]
    have ha := sm_cut 9 b.length j hk
    rw [e]
    unfold getF
    rw [show gs 0 0 ((small b.length).take j) = none from gs_unend _ 0 0 ha]
    have hu : unend ((small b.length).take j) = true := by
      unfold unend
      rw [show ((small b.length).take j).all (fun b => decide (128 ≤ b.toNat)) = true from ha, Bool.true_and, decide_eq_true]
      have := sm_len 9 b.length
      rw [List.length_take]; show min j (sm 9 b.length).length < 10
      have hk' : j < (sm 9 b.length).length := hk
      omega
    simp only [hu, if_true]
  · have e : (frm b).take j = small b.length ++ ((b ++ ctail (text b)).take (j - (small b.length).length)) := by
      unfold frm text; rw [List.append_assoc, List.take_append, List.take_of_length_le (by omega)]
    have h1 : gs 0 0 ((frm b).take j) = some (b.length, (small b.length).length) := by rw [e]; exact gs_small _ _ (by omega)
    unfold getF
    rw [h1]
    simp only []
    rw [if_neg (by omega), if_pos (by rw [List.length_take]; omega)]
theorem byteStep_inj {c : BitVec 32} {x y : UInt8} (h : byteStep c x = byteStep c y) : x = y := by
  have h1 := tsteps_inj h
  have h2 : BitVec.ofNat 32 x.toNat = BitVec.ofNat 32 y.toNat := by
    have := congrArg (c ^^^ ·) h1
    simpa [← BitVec.xor_assoc] using this
  have h3 := congrArg BitVec.toNat h2
  rw [BitVec.toNat_ofNat, BitVec.toNat_ofNat] at h3
  have := x.toNat_lt
  have := y.toNat_lt
  exact UInt8.toNat_inj.1 (by omega)
theorem cof_one {p q : List UInt8} {x y : UInt8} (h : cof (p ++ x :: q) = cof (p ++ y :: q)) : x = y := by
  unfold cof con at h
  have h1 := congrArg (~~~ ·) h
  simp only [BitVec.not_not] at h1
  rw [crun_append, crun_append] at h1
  exact byteStep_inj (crun_inj q h1)
theorem getF_body (p q r : List UInt8) (x y : UInt8) (most : Int) (hxy : x ≠ y) (h : (p ++ x :: q).length < 9223372036854775808) (hm : ((p ++ x :: q).length : Int) ≤ most) :
    (getF (small (p ++ x :: q).length ++ (p ++ y :: q) ++ ctail (text (p ++ x :: q)) ++ r) most).2.2 = 2 := by
  have := parts_get (p ++ x :: q) (p ++ y :: q) r (ctail (text (p ++ x :: q))) rfl (by simp) (by omega) most
  rw [this, if_neg (by omega), if_neg]
  intro e
  have h2 := tail_inj e
  unfold text at h2
  rw [← List.append_assoc, ← List.append_assoc] at h2
  exact hxy (cof_one h2).symm
theorem getF_tail (b t r : List UInt8) (most : Int) (ht : t.length = 4) (hne : t ≠ ctail (text b)) (h : b.length < 9223372036854775808) (hm : (b.length : Int) ≤ most) :
    (getF (text b ++ t ++ r) most).2.2 = 2 := by
  have := parts_get b b r t ht rfl (by omega) most
  show (getF (small b.length ++ b ++ t ++ r) most).2.2 = 2
  rw [this, if_neg (by omega), if_neg (fun e => hne e.symm)]
end Go.Proofs.YtdidengokijcjaaDoor.FrM
/-
  THE PLAIN LAW OF BITS: no program is in sight here. Bits are a list of booleans, the highest first.
-/
namespace Go.Proofs.YtdidengokijcjaaDoor.BitsM
theorem snocInd {α : Type} {P : List α → Prop} (h0 : P []) (hs : ∀ l b, P l → P (l ++ [b])) (l : List α) : P l := by
  have : ∀ m : List α, P m.reverse := by
    intro m
    induction m with
    | nil => exact h0
    | cons x m ih => rw [List.reverse_cons]; exact hs _ _ ih
  have := this l.reverse
  rwa [List.reverse_reverse] at this
/-- The number that bits are. -/
def numB (l : List Bool) : Nat := l.foldl (fun a b => 2 * a + b.toNat) 0
theorem numB_foldl (l : List Bool) (a : Nat) : l.foldl (fun a b => 2 * a + b.toNat) a = a * 2 ^ l.length + numB l := by
  induction l generalizing a with
  | nil => simp [numB]
  | cons x l ih =>
    have h1 := ih (2 * a + x.toNat)
    have h2 := ih x.toNat
    unfold numB
    simp only [List.foldl_cons, List.length_cons, Nat.mul_zero, Nat.zero_add]
    rw [h1, h2, Nat.pow_succ]
    have : (2 * a + x.toNat) * 2 ^ l.length = a * (2 ^ l.length * 2) + x.toNat * 2 ^ l.length := by
      rw [Nat.add_mul, Nat.mul_comm (2 ^ l.length) 2, ← Nat.mul_assoc, Nat.mul_comm a 2]
    omega
theorem numB_append (l m : List Bool) : numB (l ++ m) = numB l * 2 ^ m.length + numB m := by
  unfold numB
  rw [List.foldl_append, numB_foldl]
  rfl
theorem numB_nil : numB [] = 0 := rfl
theorem numB_snoc (l : List Bool) (b : Bool) : numB (l ++ [b]) = 2 * numB l + b.toNat := by
  rw [numB_append]; simp [numB]; omega
theorem numB_lt (l : List Bool) : numB l < 2 ^ l.length := by
  refine snocInd (P := fun l => numB l < 2 ^ l.length) (by decide) (fun l b ih => ?_) l
  rw [numB_snoc, List.length_append, List.length_singleton, Nat.pow_succ]
  have : b.toNat ≤ 1 := by cases b <;> decide
  omega
/-- The low n bits of a number. -/
def msb (v : Nat) : Nat → List Bool
  | 0 => []
  | n + 1 => msb (v / 2) n ++ [decide (v % 2 = 1)]
theorem msb_length (v n : Nat) : (msb v n).length = n := by
  induction n generalizing v with
  | zero => rfl
  | succ n ih => simp [msb, ih]
theorem numB_msb (v n : Nat) : numB (msb v n) = v % 2 ^ n := by
  induction n generalizing v with
  | zero => simp [msb, numB, Nat.mod_one]
  | succ n ih =>
    simp only [msb, numB_snoc, ih]
    rw [Nat.pow_succ, Nat.mul_comm (2 ^ n) 2, Nat.mod_mul]
    have := Nat.mod_two_eq_zero_or_one v
    rcases this with h | h <;> simp [h] <;> omega
theorem msb_append (v m t : Nat) : msb v (t + m) = msb (v / 2 ^ m) t ++ msb v m := by
  induction m generalizing v with
  | zero => simp [msb]
  | succ m ih =>
    rw [← Nat.add_assoc]
    simp only [msb]
    rw [ih, Nat.div_div_eq_div_mul, ← List.append_assoc, Nat.pow_succ, Nat.mul_comm (2 ^ m) 2]
theorem msb_mod (v n : Nat) : msb (v % 2 ^ n) n = msb v n := by
  induction n generalizing v with
  | zero => rfl
  | succ n ih =>
    simp only [msb]
    have h1 : v % 2 ^ (n + 1) / 2 = v / 2 % 2 ^ n := by
      rw [Nat.pow_succ, Nat.mul_comm, Nat.mod_mul_right_div_self]
    have h2 : v % 2 ^ (n + 1) % 2 = v % 2 := by
      rw [Nat.pow_succ, Nat.mul_comm, Nat.mod_mul_right_mod]
    rw [h1, h2, ih]
/-- The piece that is put next: t bits of the m that are left. -/
theorem msb_piece (v m t : Nat) (h : t ≤ m) : msb v m = msb (v / 2 ^ (m - t) % 2 ^ t) t ++ msb v (m - t) := by
  rw [msb_mod, ← msb_append, show t + (m - t) = m by omega]
theorem msb_numB (l : List Bool) : msb (numB l) l.length = l := by
  refine snocInd (P := fun l => msb (numB l) l.length = l) rfl (fun l b ih => ?_) l
  rw [List.length_append, List.length_singleton]
  simp only [msb, numB_snoc]
  have hb : b.toNat ≤ 1 := by cases b <;> decide
  have h1 : (2 * numB l + b.toNat) / 2 = numB l := by omega
  have h2 : decide ((2 * numB l + b.toNat) % 2 = 1) = b := by cases b <;> simp <;> omega
  rw [h1, h2, ih]
/-- One byte of bits, filled with 0. -/
def byteB (c : List Bool) : UInt8 := UInt8.ofNat (numB c * 2 ^ (8 - c.length))
/-- Bits as bytes. -/
def pack (b : List Bool) : List UInt8 := (List.range ((b.length + 7) / 8)).map fun i => byteB ((b.drop (8 * i)).take 8)
theorem pack_length (b : List Bool) : (pack b).length = (b.length + 7) / 8 := by simp [pack]
theorem byteB_toNat (c : List Bool) (h : c.length ≤ 8) : (byteB c).toNat = numB c * 2 ^ (8 - c.length) := by
  unfold byteB
  have h1 := numB_lt c
  have h2 : numB c * 2 ^ (8 - c.length) < 256 := by
    have : numB c * 2 ^ (8 - c.length) < 2 ^ c.length * 2 ^ (8 - c.length) := Nat.mul_lt_mul_of_pos_right h1 (Nat.two_pow_pos _)
    rw [← Nat.pow_add, show c.length + (8 - c.length) = 8 by omega] at this
    exact this
  simp [Nat.mod_eq_of_lt h2]
/-- The chunks of bits with more behind them: those that were full stay. -/
theorem chunk_old (b p : List Bool) (i : Nat) (h : 8 * i + 8 ≤ b.length) : ((b ++ p).drop (8 * i)).take 8 = (b.drop (8 * i)).take 8 := by
  rw [List.drop_append_of_le_length (by omega), List.take_append_of_le_length (by simp; omega)]
theorem chunk_last (b p : List Bool) (h : b.length % 8 + p.length ≤ 8) : ((b ++ p).drop (8 * (b.length / 8))).take 8 = b.drop (8 * (b.length / 8)) ++ p := by
  rw [List.drop_append_of_le_length (by omega), List.take_of_length_le (by simp; omega)]
/-- WHERE A PIECE IS PUT: on a new byte, or onto the last one. -/
theorem pack_new (b p : List Bool) (h : b.length % 8 = 0) (hp : 0 < p.length) (h8 : p.length ≤ 8) : pack (b ++ p) = pack b ++ [byteB p] := by
  unfold pack
  have e1 : ((b ++ p).length + 7) / 8 = b.length / 8 + 1 := by simp; omega
  have e2 : (b.length + 7) / 8 = b.length / 8 := by omega
  rw [e1, e2, List.range_succ, List.map_append, List.map_singleton]
  congr 1
  · apply List.map_congr_left
    intro i hi
    simp at hi
    rw [chunk_old _ _ _ (by omega)]
  · rw [chunk_last _ _ (by omega), List.drop_of_length_le (by omega)]; rfl
theorem byteB_or (c p : List Bool) (h : c.length + p.length ≤ 8) : byteB (c ++ p) = byteB c ||| UInt8.ofNat (numB p * 2 ^ (8 - c.length - p.length)) := by
  apply UInt8.toNat_inj.1
  have hp := numB_lt p
  have h3 : numB p * 2 ^ (8 - c.length - p.length) < 2 ^ (8 - c.length) := by
    have : numB p * 2 ^ (8 - c.length - p.length) < 2 ^ p.length * 2 ^ (8 - c.length - p.length) := Nat.mul_lt_mul_of_pos_right hp (Nat.two_pow_pos _)
    rw [← Nat.pow_add, show p.length + (8 - c.length - p.length) = 8 - c.length by omega] at this
    exact this
  have h4 : (2 : Nat) ^ (8 - c.length) ≤ 2 ^ 8 := Nat.pow_le_pow_right (by omega) (by omega)
  rw [byteB_toNat _ (by simp; omega), UInt8.toNat_or, byteB_toNat _ (by omega), numB_append, List.length_append, Nat.add_mul, Nat.mul_assoc, ← Nat.pow_add]
  rw [show p.length + (8 - (c.length + p.length)) = 8 - c.length by omega, show 8 - (c.length + p.length) = 8 - c.length - p.length by omega]
  have h5 : (UInt8.ofNat (numB p * 2 ^ (8 - c.length - p.length))).toNat = numB p * 2 ^ (8 - c.length - p.length) := by
    simp; omega
  rw [h5]
  have := Nat.two_pow_add_eq_or_of_lt h3 (numB c)
  rw [Nat.mul_comm (numB c), this]
theorem pack_more (b p : List Bool) (h : b.length % 8 ≠ 0) (h8 : b.length % 8 + p.length ≤ 8) :
    ∃ (F : List UInt8) (x : UInt8), pack b = F ++ [x] ∧ pack (b ++ p) = F ++ [x ||| UInt8.ofNat (numB p * 2 ^ (8 - b.length % 8 - p.length))] := by
  refine ⟨(List.range (b.length / 8)).map fun i => byteB ((b.drop (8 * i)).take 8), byteB (b.drop (8 * (b.length / 8))), ?_, ?_⟩
  · unfold pack
    rw [show (b.length + 7) / 8 = b.length / 8 + 1 by omega, List.range_succ, List.map_append, List.map_singleton]
    rw [List.take_of_length_le (by simp; omega)]
  · unfold pack
    rw [show ((b ++ p).length + 7) / 8 = b.length / 8 + 1 by simp; omega, List.range_succ, List.map_append, List.map_singleton]
    congr 1
    · apply List.map_congr_left
      intro i hi
      simp at hi
      rw [chunk_old _ _ _ (by omega)]
    · rw [chunk_last _ _ h8, byteB_or _ _ (by simp; omega)]
      have : (b.drop (8 * (b.length / 8))).length = b.length % 8 := by simp; omega
      rw [this]
/-- The bits of bytes. -/
def unpack (l : List UInt8) : List Bool := l.flatMap fun x => msb x.toNat 8
theorem unpack_length (l : List UInt8) : (unpack l).length = 8 * l.length := by
  induction l with
  | nil => rfl
  | cons x l ih => simp [unpack, msb_length] at *; omega
end Go.Proofs.YtdidengokijcjaaDoor.BitsM
/-
  THE PLAIN LAW OF BITS, AND WHAT IS GOT.
-/
namespace Go.Proofs.YtdidengokijcjaaDoor.BitsM
theorem unpack_cons (x : UInt8) (l : List UInt8) : unpack (x :: l) = msb x.toNat 8 ++ unpack l := by simp [unpack]
theorem unpack_append (l m : List UInt8) : unpack (l ++ m) = unpack l ++ unpack m := by simp [unpack]
theorem unpack_drop8 (l : List UInt8) (i : Nat) : (unpack l).drop (8 * i) = unpack (l.drop i) := by
  induction l generalizing i with
  | nil => simp [unpack]
  | cons x l ih =>
    cases i with
    | zero => simp
    | succ i =>
      rw [unpack_cons, List.drop_succ_cons, ← ih i, List.drop_append, msb_length, List.drop_of_length_le (by rw [msb_length]; omega)]
      simp
      congr 1
theorem unpack_piece (l : List UInt8) (f t : Nat) (x : UInt8) (h8 : f % 8 + t ≤ 8) (hx : l[f / 8]? = some x) : numB (((unpack l).drop f).take t) = x.toNat * 2 ^ (f % 8) % 256 / 2 ^ (8 - t) := by
  have hlt : f / 8 < l.length := (List.getElem?_eq_some_iff.1 hx).1
  have e1 : (unpack l).drop f = ((unpack l).drop (8 * (f / 8))).drop (f % 8) := by rw [List.drop_drop, Nat.div_add_mod]
  rw [e1, unpack_drop8, List.drop_eq_getElem_cons hlt, unpack_cons]
  have hxe : l[f / 8] = x := (List.getElem?_eq_some_iff.1 hx).2
  rw [hxe]
  generalize f % 8 = a at *
  have e2 : msb x.toNat 8 = msb (x.toNat / 2 ^ (8 - a)) a ++ msb x.toNat (8 - a) := by rw [← msb_append, show a + (8 - a) = 8 by omega]
  have e3 : msb x.toNat (8 - a) = msb (x.toNat / 2 ^ (8 - a - t)) t ++ msb x.toNat (8 - a - t) := by rw [← msb_append, show t + (8 - a - t) = 8 - a by omega]
  rw [e2, List.append_assoc, List.drop_append, msb_length, List.drop_of_length_le (by rw [msb_length]; omega), Nat.sub_self, List.drop_zero, List.nil_append, e3, List.append_assoc, List.take_append, msb_length, Nat.sub_self, List.take_of_length_le (by rw [msb_length]; omega), List.take_zero, List.append_nil, numB_msb]
  have e4 : 256 = 2 ^ a * 2 ^ (8 - a) := by rw [← Nat.pow_add, show a + (8 - a) = 8 by omega]
  have e5 : (2 : Nat) ^ (8 - t) = 2 ^ a * 2 ^ (8 - a - t) := by rw [← Nat.pow_add]; congr 1; omega
  rw [e4, Nat.mul_comm x.toNat, Nat.mul_mod_mul_left, e5, Nat.mul_div_mul_left _ _ (Nat.two_pow_pos a)]
  have e6 : (2 : Nat) ^ (8 - a) = 2 ^ (8 - a - t) * 2 ^ t := by rw [← Nat.pow_add]; congr 1; omega
  rw [e6, Nat.mod_mul_right_div_self]
/-- What is got and the piece that is got next. -/
theorem got_more (b : List Bool) (p j t : Nat) : (b.drop p).take (j + t) = (b.drop p).take j ++ (b.drop (p + j)).take t := by
  rw [List.take_add, List.drop_drop]
theorem numB_got (b : List Bool) (p j t : Nat) (h : p + j + t ≤ b.length) : numB ((b.drop p).take (j + t)) = numB ((b.drop p).take j) * 2 ^ t + numB ((b.drop (p + j)).take t) := by
  rw [got_more, numB_append, List.length_take, List.length_drop, Nat.min_eq_left (by omega)]
theorem numB_take_lt (b : List Bool) (t : Nat) : numB (b.take t) < 2 ^ t :=
  Nat.lt_of_lt_of_le (numB_lt _) (Nat.pow_le_pow_right (by omega) (by simp; omega))
theorem numB_zeros (k : Nat) : numB (List.replicate k false) = 0 := by
  induction k with
  | zero => rfl
  | succ k ih =>
    rw [List.replicate_succ']
    rw [numB_snoc, ih]; rfl
theorem pack_pad (b : List Bool) (k : Nat) (hk : k < 8) (h : (b.length + k) % 8 = 0) : pack (b ++ List.replicate k false) = pack b := by
  by_cases h0 : b.length % 8 = 0
  · obtain rfl : k = 0 := by omega
    simp
  · obtain ⟨F, x, h1, h2⟩ := pack_more b (List.replicate k false) h0 (by simp; omega)
    rw [h2, h1, numB_zeros]
    simp
theorem pack_take (b : List Bool) (j : Nat) (h : 8 * j + 8 ≤ b.length) : (pack b).take (j + 1) = (pack b).take j ++ [UInt8.ofNat (numB ((b.drop (8 * j)).take 8))] := by
  have hl : j < (pack b).length := by rw [pack_length]; omega
  rw [List.take_add_one, List.getElem?_eq_getElem hl]
  have e : ((b.drop (8 * j)).take 8).length = 8 := by simp; omega
  have e2 : (pack b)[j] = byteB ((b.drop (8 * j)).take 8) := by simp [pack]
  rw [e2, byteB, e]
  simp
end Go.Proofs.YtdidengokijcjaaDoor.BitsM
/-
  THE PLAIN LAW OF BITS: what is packed is unpacked.
-/
namespace Go.Proofs.YtdidengokijcjaaDoor.BitsM
def zeros (n : Nat) : List Bool := List.replicate n false
theorem unpack_byteB (c : List Bool) (h : c.length ≤ 8) : msb (byteB c).toNat 8 = c ++ zeros (8 - c.length) := by
  rw [byteB_toNat c h]
  have e : numB (c ++ zeros (8 - c.length)) = numB c * 2 ^ (8 - c.length) := by
    unfold zeros
    rw [numB_append, numB_zeros, List.length_replicate, Nat.add_zero]
  have e2 := msb_numB (c ++ zeros (8 - c.length))
  rw [e] at e2
  have e3 : (c ++ zeros (8 - c.length)).length = 8 := by simp [zeros]; omega
  rw [e3] at e2
  exact e2
theorem full_chunks (b : List Bool) : ∀ n, 8 * n ≤ b.length → ((List.range n).map fun i => byteB ((b.drop (8 * i)).take 8)).flatMap (fun x => msb x.toNat 8) = b.take (8 * n)
  | 0, _ => by simp
  | n + 1, h => by
    rw [List.range_succ, List.map_append, List.flatMap_append, full_chunks b n (by omega)]
    have hl : ((b.drop (8 * n)).take 8).length = 8 := by simp; omega
    rw [List.map_singleton, List.flatMap_singleton, unpack_byteB _ (by omega), hl, Nat.sub_self]
    rw [show 8 * (n + 1) = 8 * n + 8 by omega, List.take_add]
    simp [zeros]
theorem unpack_pack (b : List Bool) : unpack (pack b) = b ++ zeros (8 * ((b.length + 7) / 8) - b.length) := by
  unfold unpack pack
  by_cases h : b.length % 8 = 0
  · rw [show (b.length + 7) / 8 = b.length / 8 by omega, full_chunks b _ (by omega), show 8 * (b.length / 8) = b.length by omega]
    simp [zeros]
  · rw [show (b.length + 7) / 8 = b.length / 8 + 1 by omega, List.range_succ, List.map_append, List.flatMap_append, full_chunks b _ (by omega)]
    have hl : ((b.drop (8 * (b.length / 8))).take 8).length = b.length % 8 := by simp; omega
    rw [List.map_singleton, List.flatMap_singleton, unpack_byteB _ (by omega), hl, ← List.append_assoc, ← List.take_add, List.take_of_length_le (by omega)]
    congr 2
    omega
theorem mid_take (x y z : List Bool) : ((x ++ y ++ z).drop x.length).take y.length = y := by
  rw [List.append_assoc, List.drop_left, List.take_left]
theorem zeros_all (n : Nat) : (zeros n).all (! ·) = true := by
  unfold zeros
  induction n with
  | zero => rfl
  | succ n ih => simp
end Go.Proofs.YtdidengokijcjaaDoor.BitsM
