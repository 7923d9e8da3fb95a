/-
  alluviumref05.Put, Begin, take: THE WALKS.
-/
import Derived.Test.YtboomamnenonoaaDoorVaRef
import Derived.Deep.Cut
namespace Go.Proofs.YtboomamnenonoaaDoor.VaW
set_option linter.unusedVariables false
open Go.RowKit Go.Shelf BitsM BitsW VaM
theorem rput_any (s : Sv) (v : Nat) (w : World) (hs : okV s) (hv : v < 18446744073709551616) (hN : s.1 ≤ 4398046511104) :
    Calls Tryd.prog 28 #[.agg #[.int .i64 ((s).1 : Int), .int .u64 ((s).2.1 : Int), .int .i64 ((s).2.2.1 : Int), .int .i64 ((s).2.2.2 : Int)], .int .u64 (v : Int)] w fun e w' => e = .returned (.tuple #[.string (bstr (putV s v)), .agg #[.int .i64 ((aftV s v).1 : Int), .int .u64 ((aftV s v).2.1 : Int), .int .i64 ((aftV s v).2.2.1 : Int), .int .i64 ((aftV s v).2.2.2 : Int)]]) ∧ Below w.heap.size w w' := by
  by_cases h0 : s.1 = 0
  · exact rput_0 s v w hs hv hN h0
  by_cases hx0 : v ^^^ s.2.1 = 0
  · exact rput_1 s v w hs hv hN h0 hx0
  by_cases hi : inB s (v ^^^ s.2.1) = true
  · exact rput_2 s v w hs hv hN h0 hx0 hi
  · exact rput_3 s v w hs hv hN h0 hx0 hi
theorem rbegin_any (w : World) : Calls Tryd.prog 24 #[] w fun e w' => e = .returned (.agg #[.int .i64 0, .int .u64 0, .int .i64 64, .int .i64 0]) ∧ Below w.heap.size w w' := by
  go_enter Tryd.func24, Tryd.ntmps24
  go_wp2
  exact bodyPost_ret (v := .agg #[.int .i64 0, .int .u64 0, .int .i64 64, .int .i64 0]) (by simp [results, Tryd.results24, go_sem]) rfl ⟨rfl, (Below.refl _ _).alloc (Nat.le_refl _) _⟩
set_option maxHeartbeats 1000000 in
theorem rtake_no (b : List Bool) (p : Nat) (n up : Int) (w : World) (hp : p ≤ 100) (hn : n ≤ 64) (hl : b.length ≤ 1099511627776) (h : n < 0 ∨ (b.length : Int) < p + n ∨ up < 0) :
    Calls Tryd.prog 37 #[.string (bstr b), .int .i64 (p : Int), .int .i64 n, .int .i64 up] w fun e w' => e = .returned (.tuple #[.int .u64 0, .bool false]) ∧ w = w' := by
  have hz := bstr_size b
  generalize b.length = l at *
  obtain ⟨X, hX⟩ : ∃ X, bstr b = X := ⟨_, rfl⟩
  rw [hX] at hz ⊢
  clear hX
  have hc : n < 0 ∨ (¬ n < 0 ∧ 0 ≤ n ∧ (l : Int) < (p : Int) + n) ∨ (¬ n < 0 ∧ 0 ≤ n ∧ ¬ (l : Int) < (p : Int) + n ∧ up < 0) := by omega
  clear h
  rcases hc with h1 | ⟨h1, h0, h2⟩ | ⟨h1, h0, h2, h3⟩
  all_goals (
    go_enter Tryd.func37, Tryd.ntmps37
    go_wp2
    go_ret2
    exact ⟨rfl, rfl⟩)
theorem pow_step (V i : Nat) : V * 2 ^ i * 2 = V * 2 ^ (i + 1) := by rw [Nat.pow_succ, Nat.mul_assoc]
set_option maxHeartbeats 2000000 in
theorem rtake_yes (b : List Bool) (p n up : Nat) (w : World) (hp : p ≤ 100) (hn : n + up ≤ 64) (hb : p + n ≤ b.length) (hl : b.length ≤ 1099511627776) :
    Calls Tryd.prog 37 #[.string (bstr b), .int .i64 (p : Int), .int .i64 (n : Int), .int .i64 (up : Int)] w fun e w' => e = .returned (.tuple #[.int .u64 ((numB ((b.drop p).take n) * 2 ^ up : Nat) : Int), .bool true]) ∧ w = w' := by
  have hz := bstr_size b
  have hsl := slice_mid (P := Tryd.prog) Tryd.underlying9 (bstr b) (p : Int) ((p : Int) + (n : Int)) p (p + n) rfl (by omega) (by omega) (by omega)
  rw [bstr_extract, show p + n - p = n by omega] at hsl
  have hdl : ((b.drop p).take n).length = n := by rw [List.length_take, List.length_drop]; omega
  have hlt := numB_lt ((b.drop p).take n)
  rw [hdl] at hlt
  generalize (b.drop p).take n = d at *
  generalize hl' : b.length = l at *
  have HNU := Lib.hid (rnumber_any d w (by omega))
  obtain ⟨V, hV⟩ : ∃ V, numB d = V := ⟨_, rfl⟩
  rw [hV] at hlt HNU ⊢
  have HLT : Hid (∀ i, i ≤ up → V * 2 ^ i < 18446744073709551616) := Lib.hid (fun i hi => by
    have h1 : V * 2 ^ i < 2 ^ n * 2 ^ i := Nat.mul_lt_mul_of_pos_right hlt (Nat.pow_pos (by omega))
    rw [← Nat.pow_add] at h1
    have h2 : 2 ^ (n + i) ≤ 2 ^ 64 := Nat.pow_le_pow_right (by omega) (by omega)
    have h3 : (2 : Nat) ^ 64 = 18446744073709551616 := by decide
    omega)
  obtain ⟨X, hX⟩ : ∃ X, bstr b = X := ⟨_, rfl⟩
  obtain ⟨Y, hY⟩ : ∃ X, bstr d = X := ⟨_, rfl⟩
  rw [hX] at hz hsl ⊢
  rw [hY] at hsl HNU
  clear hX hY hV hlt hdl hl'
  have h1 : ¬ (n : Int) < 0 := by omega
  have h2 : ¬ (l : Int) < (p : Int) + (n : Int) := by omega
  have h3 : ¬ (up : Int) < 0 := by omega
  obtain ⟨T, hT⟩ : ∃ T, V * 2 ^ up = T := ⟨_, rfl⟩
  rw [hT]
  have HT := Lib.hid hT
  clear hT
  go_enter Tryd.func37, Tryd.ntmps37
  go_wp2_with fail
  refine HNU.out.mono ?_
  rintro e w' ⟨rfl, rfl⟩
  go_wp2_with fail
  go_loop [10, 11] (fun v10 v11 => ∃ i m : Nat, i ≤ up ∧ v11 = .int .i64 i ∧ v10 = .int .u64 m ∧ m = V * 2 ^ i) (fun _ v11 => up - (intOf v11).toNat)
  case atStart => exact ⟨0, V, Nat.zero_le _, rfl, rfl, by simp⟩
  case round =>
    obtain ⟨i, m, hi, rfl, rfl, hm⟩ := hrel
    have HM := Lib.hid hm
    by_cases hlt : i < up
    · have hlt2 := HLT.out (i + 1) (by omega)
      rw [← pow_step, ← hm] at hlt2
      have hml : m * 2 ≤ 18446744073709551615 := by omega
      clear hm hlt2
      go_wp2
      go_round
      case rel => exact ⟨i + 1, m * 2, by omega, by go_num, by first | rfl | (congr 1; omega), by rw [HM.out, pow_step]⟩
      case measure => simp [intOf]; omega
    · obtain rfl : i = up := by omega
      have hmt : m = T := by rw [hm, HT.out]
      subst hmt
      clear hm
      go_wp2
      go_ret2
      exact ⟨rfl, rfl⟩
end Go.Proofs.YtboomamnenonoaaDoor.VaW
