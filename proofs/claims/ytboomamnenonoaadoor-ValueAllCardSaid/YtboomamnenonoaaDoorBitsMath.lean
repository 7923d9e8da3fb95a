/-
  THE PLAIN LAW OF BITS: no program is in sight here. Bits are a list of booleans, the highest first.
-/
namespace Go.Proofs.YtboomamnenonoaaDoor.BitsM
theorem snocInd {α : Type} {P : List α → Prop} (h0 : P []) (hs : ∀ l b, P l → P (l ++ [b])) (l : List α) : P l := by
  have : ∀ m : List α, P m.reverse := by
    intro m
    induction m with
    | nil => exact h0
    | cons x m ih => rw [List.reverse_cons]; exact hs _ _ ih
  have := this l.reverse
  rwa [List.reverse_reverse] at this
/-- The number that bits are. -/
def numB (l : List Bool) : Nat := l.foldl (fun a b => 2 * a + b.toNat) 0
theorem numB_foldl (l : List Bool) (a : Nat) : l.foldl (fun a b => 2 * a + b.toNat) a = a * 2 ^ l.length + numB l := by
  induction l generalizing a with
  | nil => simp [numB]
  | cons x l ih =>
    have h1 := ih (2 * a + x.toNat)
    have h2 := ih x.toNat
    unfold numB
    simp only [List.foldl_cons, List.length_cons, Nat.mul_zero, Nat.zero_add]
    rw [h1, h2, Nat.pow_succ]
    have : (2 * a + x.toNat) * 2 ^ l.length = a * (2 ^ l.length * 2) + x.toNat * 2 ^ l.length := by
      rw [Nat.add_mul, Nat.mul_comm (2 ^ l.length) 2, ← Nat.mul_assoc, Nat.mul_comm a 2]
    omega
theorem numB_append (l m : List Bool) : numB (l ++ m) = numB l * 2 ^ m.length + numB m := by
  unfold numB
  rw [List.foldl_append, numB_foldl]
  rfl
theorem numB_nil : numB [] = 0 := rfl
theorem numB_snoc (l : List Bool) (b : Bool) : numB (l ++ [b]) = 2 * numB l + b.toNat := by
  rw [numB_append]; simp [numB]; omega
theorem numB_lt (l : List Bool) : numB l < 2 ^ l.length := by
  refine snocInd (P := fun l => numB l < 2 ^ l.length) (by decide) (fun l b ih => ?_) l
  rw [numB_snoc, List.length_append, List.length_singleton, Nat.pow_succ]
  have : b.toNat ≤ 1 := by cases b <;> decide
  omega
/-- The low n bits of a number. -/
def msb (v : Nat) : Nat → List Bool
  | 0 => []
  | n + 1 => msb (v / 2) n ++ [decide (v % 2 = 1)]
theorem msb_length (v n : Nat) : (msb v n).length = n := by
  induction n generalizing v with
  | zero => rfl
  | succ n ih => simp [msb, ih]
theorem numB_msb (v n : Nat) : numB (msb v n) = v % 2 ^ n := by
  induction n generalizing v with
  | zero => simp [msb, numB, Nat.mod_one]
  | succ n ih =>
    simp only [msb, numB_snoc, ih]
    rw [Nat.pow_succ, Nat.mul_comm (2 ^ n) 2, Nat.mod_mul]
    have := Nat.mod_two_eq_zero_or_one v
    rcases this with h | h <;> simp [h] <;> omega
theorem msb_append (v m t : Nat) : msb v (t + m) = msb (v / 2 ^ m) t ++ msb v m := by
  induction m generalizing v with
  | zero => simp [msb]
  | succ m ih =>
    rw [← Nat.add_assoc]
    simp only [msb]
    rw [ih, Nat.div_div_eq_div_mul, ← List.append_assoc, Nat.pow_succ, Nat.mul_comm (2 ^ m) 2]
theorem msb_mod (v n : Nat) : msb (v % 2 ^ n) n = msb v n := by
  induction n generalizing v with
  | zero => rfl
  | succ n ih =>
    simp only [msb]
    have h1 : v % 2 ^ (n + 1) / 2 = v / 2 % 2 ^ n := by
      rw [Nat.pow_succ, Nat.mul_comm, Nat.mod_mul_right_div_self]
    have h2 : v % 2 ^ (n + 1) % 2 = v % 2 := by
      rw [Nat.pow_succ, Nat.mul_comm, Nat.mod_mul_right_mod]
    rw [h1, h2, ih]
/-- The piece that is put next: t bits of the m that are left. -/
theorem msb_piece (v m t : Nat) (h : t ≤ m) : msb v m = msb (v / 2 ^ (m - t) % 2 ^ t) t ++ msb v (m - t) := by
  rw [msb_mod, ← msb_append, show t + (m - t) = m by omega]
theorem msb_numB (l : List Bool) : msb (numB l) l.length = l := by
  refine snocInd (P := fun l => msb (numB l) l.length = l) rfl (fun l b ih => ?_) l
  rw [List.length_append, List.length_singleton]
  simp only [msb, numB_snoc]
  have hb : b.toNat ≤ 1 := by cases b <;> decide
  have h1 : (2 * numB l + b.toNat) / 2 = numB l := by omega
  have h2 : decide ((2 * numB l + b.toNat) % 2 = 1) = b := by cases b <;> simp <;> omega
  rw [h1, h2, ih]
/-- One byte of bits, filled with 0. -/
def byteB (c : List Bool) : UInt8 := UInt8.ofNat (numB c * 2 ^ (8 - c.length))
/-- Bits as bytes. -/
def pack (b : List Bool) : List UInt8 := (List.range ((b.length + 7) / 8)).map fun i => byteB ((b.drop (8 * i)).take 8)
theorem pack_length (b : List Bool) : (pack b).length = (b.length + 7) / 8 := by simp [pack]
theorem byteB_toNat (c : List Bool) (h : c.length ≤ 8) : (byteB c).toNat = numB c * 2 ^ (8 - c.length) := by
  unfold byteB
  have h1 := numB_lt c
  have h2 : numB c * 2 ^ (8 - c.length) < 256 := by
    have : numB c * 2 ^ (8 - c.length) < 2 ^ c.length * 2 ^ (8 - c.length) := Nat.mul_lt_mul_of_pos_right h1 (Nat.two_pow_pos _)
    rw [← Nat.pow_add, show c.length + (8 - c.length) = 8 by omega] at this
    exact this
  simp [Nat.mod_eq_of_lt h2]
/-- The chunks of bits with more behind them: those that were full stay. -/
theorem chunk_old (b p : List Bool) (i : Nat) (h : 8 * i + 8 ≤ b.length) : ((b ++ p).drop (8 * i)).take 8 = (b.drop (8 * i)).take 8 := by
  rw [List.drop_append_of_le_length (by omega), List.take_append_of_le_length (by simp; omega)]
theorem chunk_last (b p : List Bool) (h : b.length % 8 + p.length ≤ 8) : ((b ++ p).drop (8 * (b.length / 8))).take 8 = b.drop (8 * (b.length / 8)) ++ p := by
  rw [List.drop_append_of_le_length (by omega), List.take_of_length_le (by simp; omega)]
/-- WHERE A PIECE IS PUT: on a new byte, or onto the last one. -/
theorem pack_new (b p : List Bool) (h : b.length % 8 = 0) (hp : 0 < p.length) (h8 : p.length ≤ 8) : pack (b ++ p) = pack b ++ [byteB p] := by
  unfold pack
  have e1 : ((b ++ p).length + 7) / 8 = b.length / 8 + 1 := by simp; omega
  have e2 : (b.length + 7) / 8 = b.length / 8 := by omega
  rw [e1, e2, List.range_succ, List.map_append, List.map_singleton]
  congr 1
  · apply List.map_congr_left
    intro i hi
    simp at hi
    rw [chunk_old _ _ _ (by omega)]
  · rw [chunk_last _ _ (by omega), List.drop_of_length_le (by omega)]; rfl
theorem byteB_or (c p : List Bool) (h : c.length + p.length ≤ 8) : byteB (c ++ p) = byteB c ||| UInt8.ofNat (numB p * 2 ^ (8 - c.length - p.length)) := by
  apply UInt8.toNat_inj.1
  have hp := numB_lt p
  have h3 : numB p * 2 ^ (8 - c.length - p.length) < 2 ^ (8 - c.length) := by
    have : numB p * 2 ^ (8 - c.length - p.length) < 2 ^ p.length * 2 ^ (8 - c.length - p.length) := Nat.mul_lt_mul_of_pos_right hp (Nat.two_pow_pos _)
    rw [← Nat.pow_add, show p.length + (8 - c.length - p.length) = 8 - c.length by omega] at this
    exact this
  have h4 : (2 : Nat) ^ (8 - c.length) ≤ 2 ^ 8 := Nat.pow_le_pow_right (by omega) (by omega)
  rw [byteB_toNat _ (by simp; omega), UInt8.toNat_or, byteB_toNat _ (by omega), numB_append, List.length_append, Nat.add_mul, Nat.mul_assoc, ← Nat.pow_add]
  rw [show p.length + (8 - (c.length + p.length)) = 8 - c.length by omega, show 8 - (c.length + p.length) = 8 - c.length - p.length by omega]
  have h5 : (UInt8.ofNat (numB p * 2 ^ (8 - c.length - p.length))).toNat = numB p * 2 ^ (8 - c.length - p.length) := by
    simp; omega
  rw [h5]
  have := Nat.two_pow_add_eq_or_of_lt h3 (numB c)
  rw [Nat.mul_comm (numB c), this]
theorem pack_more (b p : List Bool) (h : b.length % 8 ≠ 0) (h8 : b.length % 8 + p.length ≤ 8) :
    ∃ (F : List UInt8) (x : UInt8), pack b = F ++ [x] ∧ pack (b ++ p) = F ++ [x ||| UInt8.ofNat (numB p * 2 ^ (8 - b.length % 8 - p.length))] := by
  refine ⟨(List.range (b.length / 8)).map fun i => byteB ((b.drop (8 * i)).take 8), byteB (b.drop (8 * (b.length / 8))), ?_, ?_⟩
  · unfold pack
    rw [show (b.length + 7) / 8 = b.length / 8 + 1 by omega, List.range_succ, List.map_append, List.map_singleton]
    rw [List.take_of_length_le (by simp; omega)]
  · unfold pack
    rw [show ((b ++ p).length + 7) / 8 = b.length / 8 + 1 by simp; omega, List.range_succ, List.map_append, List.map_singleton]
    congr 1
    · apply List.map_congr_left
      intro i hi
      simp at hi
      rw [chunk_old _ _ _ (by omega)]
    · rw [chunk_last _ _ h8, byteB_or _ _ (by simp; omega)]
      have : (b.drop (8 * (b.length / 8))).length = b.length % 8 := by simp; omega
      rw [this]
/-- The bits of bytes. -/
def unpack (l : List UInt8) : List Bool := l.flatMap fun x => msb x.toNat 8
theorem unpack_length (l : List UInt8) : (unpack l).length = 8 * l.length := by
  induction l with
  | nil => rfl
  | cons x l ih => simp [unpack, msb_length] at *; omega
end Go.Proofs.YtboomamnenonoaaDoor.BitsM
