/-
  THE PLAIN LAW OF BITS, AND WHAT IS GOT.
-/
import Derived.Test.YtboomamnenonoaaDoorBitsMath
namespace Go.Proofs.YtboomamnenonoaaDoor.BitsM
theorem unpack_cons (x : UInt8) (l : List UInt8) : unpack (x :: l) = msb x.toNat 8 ++ unpack l := by simp [unpack]
theorem unpack_append (l m : List UInt8) : unpack (l ++ m) = unpack l ++ unpack m := by simp [unpack]
theorem unpack_drop8 (l : List UInt8) (i : Nat) : (unpack l).drop (8 * i) = unpack (l.drop i) := by
  induction l generalizing i with
  | nil => simp [unpack]
  | cons x l ih =>
    cases i with
    | zero => simp
    | succ i =>
      rw [unpack_cons, List.drop_succ_cons, ← ih i, List.drop_append, msb_length, List.drop_of_length_le (by rw [msb_length]; omega)]
      simp
      congr 1
theorem unpack_piece (l : List UInt8) (f t : Nat) (x : UInt8) (h8 : f % 8 + t ≤ 8) (hx : l[f / 8]? = some x) : numB (((unpack l).drop f).take t) = x.toNat * 2 ^ (f % 8) % 256 / 2 ^ (8 - t) := by
  have hlt : f / 8 < l.length := (List.getElem?_eq_some_iff.1 hx).1
  have e1 : (unpack l).drop f = ((unpack l).drop (8 * (f / 8))).drop (f % 8) := by rw [List.drop_drop, Nat.div_add_mod]
  rw [e1, unpack_drop8, List.drop_eq_getElem_cons hlt, unpack_cons]
  have hxe : l[f / 8] = x := (List.getElem?_eq_some_iff.1 hx).2
  rw [hxe]
  generalize f % 8 = a at *
  have e2 : msb x.toNat 8 = msb (x.toNat / 2 ^ (8 - a)) a ++ msb x.toNat (8 - a) := by rw [← msb_append, show a + (8 - a) = 8 by omega]
  have e3 : msb x.toNat (8 - a) = msb (x.toNat / 2 ^ (8 - a - t)) t ++ msb x.toNat (8 - a - t) := by rw [← msb_append, show t + (8 - a - t) = 8 - a by omega]
  rw [e2, List.append_assoc, List.drop_append, msb_length, List.drop_of_length_le (by rw [msb_length]; omega), Nat.sub_self, List.drop_zero, List.nil_append, e3, List.append_assoc, List.take_append, msb_length, Nat.sub_self, List.take_of_length_le (by rw [msb_length]; omega), List.take_zero, List.append_nil, numB_msb]
  have e4 : 256 = 2 ^ a * 2 ^ (8 - a) := by rw [← Nat.pow_add, show a + (8 - a) = 8 by omega]
  have e5 : (2 : Nat) ^ (8 - t) = 2 ^ a * 2 ^ (8 - a - t) := by rw [← Nat.pow_add]; congr 1; omega
  rw [e4, Nat.mul_comm x.toNat, Nat.mul_mod_mul_left, e5, Nat.mul_div_mul_left _ _ (Nat.two_pow_pos a)]
  have e6 : (2 : Nat) ^ (8 - a) = 2 ^ (8 - a - t) * 2 ^ t := by rw [← Nat.pow_add]; congr 1; omega
  rw [e6, Nat.mod_mul_right_div_self]
/-- What is got and the piece that is got next. -/
theorem got_more (b : List Bool) (p j t : Nat) : (b.drop p).take (j + t) = (b.drop p).take j ++ (b.drop (p + j)).take t := by
  rw [List.take_add, List.drop_drop]
theorem numB_got (b : List Bool) (p j t : Nat) (h : p + j + t ≤ b.length) : numB ((b.drop p).take (j + t)) = numB ((b.drop p).take j) * 2 ^ t + numB ((b.drop (p + j)).take t) := by
  rw [got_more, numB_append, List.length_take, List.length_drop, Nat.min_eq_left (by omega)]
theorem numB_take_lt (b : List Bool) (t : Nat) : numB (b.take t) < 2 ^ t :=
  Nat.lt_of_lt_of_le (numB_lt _) (Nat.pow_le_pow_right (by omega) (by simp; omega))
theorem numB_zeros (k : Nat) : numB (List.replicate k false) = 0 := by
  induction k with
  | zero => rfl
  | succ k ih =>
    rw [List.replicate_succ']
    rw [numB_snoc, ih]; rfl
theorem pack_pad (b : List Bool) (k : Nat) (hk : k < 8) (h : (b.length + k) % 8 = 0) : pack (b ++ List.replicate k false) = pack b := by
  by_cases h0 : b.length % 8 = 0
  · obtain rfl : k = 0 := by omega
    simp
  · obtain ⟨F, x, h1, h2⟩ := pack_more b (List.replicate k false) h0 (by simp; omega)
    rw [h2, h1, numB_zeros]
    simp
theorem pack_take (b : List Bool) (j : Nat) (h : 8 * j + 8 ≤ b.length) : (pack b).take (j + 1) = (pack b).take j ++ [UInt8.ofNat (numB ((b.drop (8 * j)).take 8))] := by
  have hl : j < (pack b).length := by rw [pack_length]; omega
  rw [List.take_add_one, List.getElem?_eq_getElem hl]
  have e : ((b.drop (8 * j)).take 8).length = 8 := by simp; omega
  have e2 : (pack b)[j] = byteB ((b.drop (8 * j)).take 8) := by simp [pack]
  rw [e2, byteB, e]
  simp
end Go.Proofs.YtboomamnenonoaaDoor.BitsM
