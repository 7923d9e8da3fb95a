/-
  THE PLAIN LAW OF BITS: what is packed is unpacked.
-/
import Derived.Test.YtboomamnenonoaaDoorBitsMath2
namespace Go.Proofs.YtboomamnenonoaaDoor.BitsM
def zeros (n : Nat) : List Bool := List.replicate n false
theorem unpack_byteB (c : List Bool) (h : c.length ≤ 8) : msb (byteB c).toNat 8 = c ++ zeros (8 - c.length) := by
  rw [byteB_toNat c h]
  have e : numB (c ++ zeros (8 - c.length)) = numB c * 2 ^ (8 - c.length) := by
    unfold zeros
    rw [numB_append, numB_zeros, List.length_replicate, Nat.add_zero]
  have e2 := msb_numB (c ++ zeros (8 - c.length))
  rw [e] at e2
  have e3 : (c ++ zeros (8 - c.length)).length = 8 := by simp [zeros]; omega
  rw [e3] at e2
  exact e2
theorem full_chunks (b : List Bool) : ∀ n, 8 * n ≤ b.length → ((List.range n).map fun i => byteB ((b.drop (8 * i)).take 8)).flatMap (fun x => msb x.toNat 8) = b.take (8 * n)
  | 0, _ => by simp
  | n + 1, h => by
    rw [List.range_succ, List.map_append, List.flatMap_append, full_chunks b n (by omega)]
    have hl : ((b.drop (8 * n)).take 8).length = 8 := by simp; omega
    rw [List.map_singleton, List.flatMap_singleton, unpack_byteB _ (by omega), hl, Nat.sub_self]
    rw [show 8 * (n + 1) = 8 * n + 8 by omega, List.take_add]
    simp [zeros]
theorem unpack_pack (b : List Bool) : unpack (pack b) = b ++ zeros (8 * ((b.length + 7) / 8) - b.length) := by
  unfold unpack pack
  by_cases h : b.length % 8 = 0
  · rw [show (b.length + 7) / 8 = b.length / 8 by omega, full_chunks b _ (by omega), show 8 * (b.length / 8) = b.length by omega]
    simp [zeros]
  · rw [show (b.length + 7) / 8 = b.length / 8 + 1 by omega, List.range_succ, List.map_append, List.flatMap_append, full_chunks b _ (by omega)]
    have hl : ((b.drop (8 * (b.length / 8))).take 8).length = b.length % 8 := by simp; omega
    rw [List.map_singleton, List.flatMap_singleton, unpack_byteB _ (by omega), hl, ← List.append_assoc, ← List.take_add, List.take_of_length_le (by omega)]
    congr 2
    omega
theorem mid_take (x y z : List Bool) : ((x ++ y ++ z).drop x.length).take y.length = y := by
  rw [List.append_assoc, List.drop_left, List.take_left]
theorem zeros_all (n : Nat) : (zeros n).all (! ·) = true := by
  unfold zeros
  induction n with
  | zero => rfl
  | succ n ih => simp
end Go.Proofs.YtboomamnenonoaaDoor.BitsM
