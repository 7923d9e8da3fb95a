/-
  alluviumref03.Small, Text; alluviumref06.Key: THE WALKS.
-/
import Derived.Test.YtgnifdkoaajboaaLbKey
namespace Go.Proofs.Ytgnifdkoaajboaa.FrW
set_option linter.unusedVariables false
open Go.RowKit FrM LabM LbM LabW
set_option maxRecDepth 20000 in
set_option maxHeartbeats 2000000 in
theorem rsmall_any (n : Nat) (w : World) (hn : n < 18446744073709551616) :
    Calls Try.prog 49 #[.int .u64 (n : Int)] w fun e w' => e = .returned (.string (bs (small n))) ∧ Below w.heap.size w w' := by
  have HN := Lib.hid hn
  obtain ⟨S, hS⟩ : ∃ S, small n = S := ⟨_, rfl⟩
  rw [hS]
  have HS := Lib.hid hS
  clear hS
  go_enter Try.func49, Try.ntmps49
  go_wp2_with fail
  go_loopw [0, 3] (fun v0 v3 wr => ∃ (i m : Nat) (pre : List UInt8), i ≤ 9 ∧ v0 = .int .u64 m ∧ m < 2 * 128 ^ (9 - i) ∧ m < 18446744073709551616 ∧ pre.length = i ∧ S = pre ++ sm (9 - i) m ∧ wr.ownsRow w.heap.size 5 1 v3 i (byteCells pre) ∧ Below w.heap.size w wr) (fun v0 _ _ => (intOf v0).toNat)
  case atStart => exact ⟨0, n, [], by omega, rfl, by rw [show 9 - 0 = 9 from rfl, num_two]; exact HN.out, HN.out, rfl, HS.out.symm, World.ownsRow_nil _ _ _ _, Below.refl _ _⟩
  case round =>
    obtain ⟨i, m, pre, hi, rfl, hm, hm64, hpl, hpre, hown, hb⟩ := hrel
    have HB := Lib.hid (And.intro hb (And.intro hpl hpre))
    have hbz := hb.size
    have HM := Lib.hid hm
    clear hb hpl hpre hm
    by_cases hlt : m < 128
    · have hS2 : S = pre ++ [UInt8.ofNat m] := by rw [HB.out.2.2, sm_last hlt]
      have h256 : ((m : Int)) % 256 = m := by omega
      have HCV := Lib.hid (fun (v' : Value) (w' : World) (hown' : w'.ownsRow w.heap.size 5 1 v' (i + 1) (byteCells pre ++ [.int .u8 (m : Int)])) => (show (convert 42 9 v').run Try.prog w' = .ok (.string ⟨S.toArray⟩) w' from by
        refine conv_owned (P := Try.prog) (src := 42) (dst := 9) Try.underlying42 Try.underlying5 Try.underlying9 (base := w.heap.size) (n := i + 1) ?_
        rw [hS2, byteCells_append]
        have e2 : byteCells [UInt8.ofNat m] = [Value.int .u8 (m : Int)] := by simp only [byteCells, List.map_cons, List.map_nil]; rw [byte_nat _ (by omega)]
        rw [e2]; exact hown'))
      clear hS2
      go_wp2_with (at_builtin; go_must (refine wpList_append_one rfl _ _ 42 rfl w.heap.size 5 (.int .u8 0) 1 1 Try.underlying42 elemU8 rfl (by decide) wr hown rfl _ rfl rfl (one1 rfl) (by omega) (by omega) hbz ?_); intro v' w' hown' hb' hz'; have hconv := HCV.out v' w' hown'; clear hown hown')
      go_ret
      exact ⟨rfl, HB.out.1.trans hb'⟩
    · have hi8 : i < 9 := by
        have h := HM.out
        by_cases h9 : i = 9
        · subst h9; have : m < 2 := by simpa using h
          omega
        · omega
      have hdiv : (m : Int) / 128 = ((m / 128 : Nat) : Int) := by omega
      obtain ⟨y, hy⟩ : ∃ y, UInt8.ofNat (m % 128 + 128) = y := ⟨_, rfl⟩
      have hsm : sm (9 - i) m = y :: sm (9 - (i + 1)) (m / 128) := by
        rw [show 9 - i = (9 - (i + 1)) + 1 by omega, sm_more hlt, hy]
      have hm2 : m / 128 < 2 * 128 ^ (9 - (i + 1)) := by
        have h := HM.out
        rw [show 9 - i = (9 - (i + 1)) + 1 by omega, Nat.pow_succ] at h
        rw [Nat.div_lt_iff_lt_mul (by omega)]; omega
      have hyn : ((y.toNat : Nat) : Int) = (m : Int) % 128 + 128 := by rw [← hy, byte_nat _ (by omega)]; omega
      obtain ⟨m2, hmm⟩ : ∃ m2, m / 128 = m2 := ⟨_, rfl⟩
      have hlt2 : m2 < m := by omega
      rw [hmm] at hdiv hsm hm2
      have HR := Lib.hid (And.intro hsm (And.intro hm2 (And.intro hlt2 hyn)))
      clear hy hsm hm2 hmm hlt2 hyn
      go_wp2_with (at_builtin; go_must (refine wpList_append_one rfl _ _ 42 rfl w.heap.size 5 (.int .u8 0) 1 1 Try.underlying42 elemU8 rfl (by decide) wr hown rfl _ rfl rfl (one1 rfl) (by omega) (by omega) hbz ?_); intro v' w' hown' hb' hz'; clear hown)
      go_roundw
      case rel =>
        refine ⟨i + 1, m2, pre ++ [y], by omega, by first | rfl | (rw [hdiv]), HR.out.2.1, by have := HR.out.2.2.1; omega, by rw [List.length_append, HB.out.2.1]; rfl, by rw [HB.out.2.2, HR.out.1]; simp, ?_, HB.out.1.trans hb'⟩
        rw [byteCells_append]
        have e2 : byteCells [y] = [Value.int .u8 ((m : Int) % 128 + 128)] := by simp only [byteCells, List.map_cons, List.map_nil]; rw [HR.out.2.2.2]
        rw [e2]; exact hown'
      case measure => have := HR.out.2.2.1; simp [intOf]; omega
set_option maxHeartbeats 400000 in
theorem rtext_any (l : List UInt8) (w : World) (hl : l.length ≤ 1099511627776) :
    Calls Try.prog 39 #[.string (bs l)] w fun e w' => e = .returned (.string (bs (text l))) ∧ Below w.heap.size w w' := by
  have hz := bs_size l
  have hsm := sm_len 9 l.length
  have hz2 : (bs (small l.length)).size ≤ 10 := by rw [bs_size]; exact hsm
  have HT : Hid (bs (small l.length) ++ bs l = bs (text l)) := Lib.hid (bs_append _ _)
  have HS : Hid (∀ W, Calls Try.prog 49 #[.int .u64 (l.length : Int)] W fun e w' => e = .returned (.string (bs (small l.length))) ∧ Below W.heap.size W w') := Lib.hid (fun W => rsmall_any l.length W (by omega))
  obtain ⟨S, hS⟩ : ∃ S, bs (small l.length) = S := ⟨_, rfl⟩
  obtain ⟨X, hX⟩ : ∃ X, bs l = X := ⟨_, rfl⟩
  obtain ⟨n, hn⟩ : ∃ n, l.length = n := ⟨_, rfl⟩
  rw [hS, hX] at HT
  rw [hS] at HS hz2
  rw [hn] at HS hz hl
  rw [hX] at hz ⊢
  clear hS hX hsm hn
  go_enter Try.func39, Try.ntmps39
  go_wp2_with fail
  refine (HS.out _).mono ?_
  rintro e w1 ⟨rfl, hb1⟩
  go_wp2
  go_ret
  exact ⟨by rw [← HT.out]; rfl, hb1⟩
end Go.Proofs.Ytgnifdkoaajboaa.FrW
