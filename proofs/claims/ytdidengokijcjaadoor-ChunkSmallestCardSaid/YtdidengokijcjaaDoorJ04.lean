/-
  WHERE THE BITS OF A NUMBER BEGIN AND END.
-/
import Derived.Test.YtdidengokijcjaaDoorJ01
import Derived.Lib.ItoaNum
import Derived.Lib.TrailingZeros
/-
  WHERE THE BITS OF A NUMBER BEGIN AND END.
-/
namespace Go.Proofs.YtdidengokijcjaaDoor.VaM
theorem between (v : Nat) (hv : v < 2 ^ 64) (h0 : v ≠ 0) : Lib.ctz 64 v < Lib.bitLen v ∧ Lib.bitLen v ≤ 64 := by
  obtain ⟨b1, b2, b3⟩ := Lib.bitLenAux_bounds 64 v hv h0
  obtain ⟨m, hm, hk⟩ := Lib.ctzFrom_spec 64 v (by omega) hv
  have e : Lib.ctz 64 v = Lib.ctzFrom 64 v := by simp [Lib.ctz, h0]
  refine ⟨?_, Lib.bitLen_le v 64 (by omega) hv⟩
  rw [e]
  have h1 : 2 ^ Lib.ctzFrom 64 v ≤ v := by
    have : 2 ^ Lib.ctzFrom 64 v * 1 ≤ 2 ^ Lib.ctzFrom 64 v * (2 * m + 1) := Nat.mul_le_mul_left _ (by omega)
    omega
  exact (Nat.pow_lt_pow_iff_right (by decide : 1 < 2)).1 (Nat.lt_of_le_of_lt h1 b3)
end Go.Proofs.YtdidengokijcjaaDoor.VaM
