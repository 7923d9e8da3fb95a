/-
  EQUALITY OF STRUCTS OF ONE-CELL FIELDS, AS RUN EQUATIONS.
  alluviumref05.Same, alluviumlaw05.works: THE WALKS.
  alluviumref02.Lead, Trail: AND WHAT THEY COUNT.
-/
import Derived.Test.YtdidengokijcjaaDoorRows
import Derived.Test.YtdidengokijcjaaDoorJ02
import Derived.Laws.StructEq
import Derived.Test.YtdidengokijcjaaDoorJ16
import Derived.Test.YtdidengokijcjaaDoorJ05
import Derived.Lib.ItoaNum
import Derived.Lib.TrailingZeros
/-
  EQUALITY OF STRUCTS OF ONE-CELL FIELDS, AS RUN EQUATIONS.
-/
namespace Go.Proofs.YtdidengokijcjaaDoor.VaW
open Go.RowKit
def sameVa (x1 y1 : Int) (x2 y2 : Int) (x3 y3 : Int) (x4 y4 : Int) : Bool := (x1 == y1) && (x2 == y2) && (x3 == y3) && (x4 == y4)
set_option maxRecDepth 100000 in
theorem equal_Va (x1 y1 : Int) (x2 y2 : Int) (x3 y3 : Int) (x4 y4 : Int) (w : World) : (Op.equalIn 10000 106 (.agg #[.int .i64 x1, .int .u64 x2, .int .i64 x3, .int .i64 x4]) (.agg #[.int .i64 y1, .int .u64 y2, .int .i64 y3, .int .i64 y4])).run Tryd.prog w = .ok (sameVa x1 y1 x2 y2 x3 y3 x4 y4) w := by
  have ht : Tryd.prog.underlying 106 = some (.struct (Tryd.prog.fieldsOf 106)) := by kernel_rfl
  have hp : Tryd.prog.stoodInHeld 106 = false := by kernel_rfl
  rw [run_equalIn_agg _ _ _ _ _ ht hp]
  unfold Program.fieldsOf sameVa
  rw [Tryd.underlying106]
  clear ht hp
  have e0 := fun d a b => run_equalIn_int (P := Tryd.prog) w d 3 .i64 .i64 a b Tryd.underlying3
  have e1 := fun d a b => run_equalIn_int (P := Tryd.prog) w d 35 .u64 .u64 a b Tryd.underlying35
  simp (decide := true) only [Op.eqFields, Sem.run_ite, Sem.run_bind, Sem.run_pure, part, Tryd.isAgg3, Tryd.isAgg35, Result.andThen_ok, if_false, if_true, show (#[.int .i64 x1, .int .u64 x2, .int .i64 x3, .int .i64 x4] : Array Value)[0]? = some (.int .i64 x1) from rfl, show (#[.int .i64 x1, .int .u64 x2, .int .i64 x3, .int .i64 x4] : Array Value)[1]? = some (.int .u64 x2) from rfl, show (#[.int .i64 x1, .int .u64 x2, .int .i64 x3, .int .i64 x4] : Array Value)[2]? = some (.int .i64 x3) from rfl, show (#[.int .i64 x1, .int .u64 x2, .int .i64 x3, .int .i64 x4] : Array Value)[3]? = some (.int .i64 x4) from rfl, show (#[.int .i64 y1, .int .u64 y2, .int .i64 y3, .int .i64 y4] : Array Value)[0]? = some (.int .i64 y1) from rfl, show (#[.int .i64 y1, .int .u64 y2, .int .i64 y3, .int .i64 y4] : Array Value)[1]? = some (.int .u64 y2) from rfl, show (#[.int .i64 y1, .int .u64 y2, .int .i64 y3, .int .i64 y4] : Array Value)[2]? = some (.int .i64 y3) from rfl, show (#[.int .i64 y1, .int .u64 y2, .int .i64 y3, .int .i64 y4] : Array Value)[3]? = some (.int .i64 y4) from rfl, e0 9998, e1 9998]
  cases (x1 == y1) <;> cases (x2 == y2) <;> cases (x3 == y3) <;> cases (x4 == y4) <;> rfl
theorem neq_Va (x1 y1 : Int) (x2 y2 : Int) (x3 y3 : Int) (x4 y4 : Int) : ∀ w, (binOp .neq 106 (.agg #[.int .i64 x1, .int .u64 x2, .int .i64 x3, .int .i64 x4]) (.agg #[.int .i64 y1, .int .u64 y2, .int .i64 y3, .int .i64 y4])).run Tryd.prog w = .ok (.bool (!sameVa x1 y1 x2 y2 x3 y3 x4 y4)) w := fun w => by
  rw [run_neq_struct, equal_Va]; rfl
theorem eql_Va (x1 y1 : Int) (x2 y2 : Int) (x3 y3 : Int) (x4 y4 : Int) : ∀ w, (binOp .eql 106 (.agg #[.int .i64 x1, .int .u64 x2, .int .i64 x3, .int .i64 x4]) (.agg #[.int .i64 y1, .int .u64 y2, .int .i64 y3, .int .i64 y4])).run Tryd.prog w = .ok (.bool (sameVa x1 y1 x2 y2 x3 y3 x4 y4)) w := fun w => by
  rw [run_eql_struct, equal_Va]; rfl
theorem guard_Va : Tryd.prog.eqGuardType Tryd.prog.depth 106 = false := by kernel_rfl
end Go.Proofs.YtdidengokijcjaaDoor.VaW
/-
  alluviumref05.Same, alluviumlaw05.works: THE WALKS.
-/
namespace Go.Proofs.YtdidengokijcjaaDoor.VaW
set_option linter.unusedVariables false
open Go.RowKit Go.Shelf BitsM BitsW VaM
def exL : List Nat := [7, 7, 5]
theorem ex_ok : ∀ t ∈ exL, okU t := by unfold exL okU; simp
theorem ex_read : readB (unpack (pack (bitsV v0 exL))) 3 = some exL := read_back exL ex_ok (by unfold exL; simp)
theorem Comes.three (w : World) (a b c : Nat) (ha : okU a) (hb : okU b) (hc : okU c) {g : Nat} (h : w.heap[g]? = some (.cells #[.int .u64 (a : Int), .int .u64 (b : Int), .int .u64 (c : Int)] 35 (0, 0))) : Comes w 1 encU okU (some ⟨g, 0, none⟩) 3 3 [a, b, c] :=
  Comes.block h rfl (fun _ => rfl) rfl (Nat.le_refl _) (by unfold maxLen; omega) (fun x hx => by simp at hx; rcases hx with rfl | rfl | rfl <;> assumption)
theorem ex_one : aftV v0 7 = (1, 7, 64, 0) ∧ aftV (1, 7, 64, 0) 7 = (2, 7, 64, 0) ∧ aftV (2, 7, 64, 0) 5 = (3, 5, 62, 1) ∧ (putV v0 7).length = 64 ∧ (putV (1, 7, 64, 0) 7).length = 1 ∧ (putV (2, 7, 64, 0) 5).length = 15 := by decide +kernel
theorem packed_size (l : List Nat) : (⟨(pack (bitsV v0 l)).toArray⟩ : ByteArray).size ≤ 10 * l.length + 1 := by
  have h := bitsV_len v0 l
  simp only [ByteArray.size, List.size_toArray, pack_length]; omega
end Go.Proofs.YtdidengokijcjaaDoor.VaW
/-
  alluviumref02.Lead, Trail: AND WHAT THEY COUNT.
-/
namespace Go.Proofs.YtdidengokijcjaaDoor.BitsW
open Go.RowKit Go.Shelf BitsM
theorem msb_get (v : Nat) : ∀ (n i : Nat), i < n → (msb v n)[i]? = some (decide (v / 2 ^ (n - 1 - i) % 2 = 1))
  | 0, i, h => by omega
  | n + 1, i, h => by
    rw [msb_cons]
    cases i with
    | zero => simp
    | succ i =>
      rw [List.getElem?_cons_succ, msb_get v n i (by omega), show n + 1 - 1 - (i + 1) = n - 1 - i by omega]
theorem high_zero (v n : Nat) (hv : v < 2 ^ 64) (hn : n ≤ 64) (h : ∀ i, i < n → v / 2 ^ (63 - i) % 2 ≠ 1) : v / 2 ^ (64 - n) = 0 := by
  induction n with
  | zero => exact Nat.div_eq_of_lt hv
  | succ n ih =>
    have h1 := ih (by omega) (fun i hi => h i (by omega))
    have h2 := h n (by omega)
    rw [show 64 - n = (63 - n) + 1 by omega, Nat.pow_succ, ← Nat.div_div_eq_div_mul] at h1
    rw [show 64 - (n + 1) = 63 - n by omega]
    omega
theorem lead_is (v n : Nat) (hv : v < 2 ^ 64) (hn : n ≤ 64) (h : ∀ i, i < n → v / 2 ^ (63 - i) % 2 ≠ 1) (h1 : n < 64 → v / 2 ^ (63 - n) % 2 = 1) : n = 64 - Lib.bitLen v := by
  have hz := high_zero v n hv hn h
  have hlt : v < 2 ^ (64 - n) := (Nat.div_eq_zero_iff_lt (Nat.two_pow_pos _)).1 hz
  have hle : Lib.bitLen v ≤ 64 - n := Lib.bitLen_le v (64 - n) (by omega) hlt
  by_cases h64 : n < 64
  · have hge : 2 ^ (63 - n) ≤ v := by
      apply Nat.le_of_not_lt
      intro hl
      have h2 := h1 h64
      rw [Nat.div_eq_of_lt hl] at h2
      omega
    have hv0 : v ≠ 0 := by have := Nat.two_pow_pos (63 - n); omega
    obtain ⟨b1, b2, b3⟩ := Lib.bitLenAux_bounds 64 v hv hv0
    have h3 : (2 : Nat) ^ (63 - n) < 2 ^ Lib.bitLen v := Nat.lt_of_le_of_lt hge b3
    have h4 := (Nat.pow_lt_pow_iff_right (by decide : 1 < 2)).1 h3
    omega
  · omega
theorem low_zero (v n : Nat) (h : ∀ i, i < n → v / 2 ^ i % 2 ≠ 1) : v = 2 ^ n * (v / 2 ^ n) := by
  induction n with
  | zero => simp
  | succ n ih =>
    have h1 := ih (fun i hi => h i (by omega))
    have h2 := h n (by omega)
    rw [Nat.pow_succ, ← Nat.div_div_eq_div_mul, Nat.mul_assoc, Nat.mul_comm 2]
    have h3 : v / 2 ^ n / 2 * 2 = v / 2 ^ n := by omega
    rw [h3]; exact h1
theorem trail_is (v n : Nat) (hv : v < 2 ^ 64) (hn : n ≤ 64) (h : ∀ i, i < n → v / 2 ^ i % 2 ≠ 1) (h1 : n < 64 → v / 2 ^ n % 2 = 1) : n = Lib.ctz 64 v := by
  have hl := low_zero v n h
  unfold Lib.ctz
  by_cases h0 : v = 0
  · rw [if_pos h0]
    apply Nat.le_antisymm hn
    apply Nat.le_of_not_lt
    intro h64
    have h2 := h1 h64
    rw [h0] at h2
    simp at h2
  · rw [if_neg h0]
    obtain ⟨m, hm, hk⟩ := Lib.ctzFrom_spec 64 v (by omega) hv
    generalize Lib.ctzFrom 64 v = k at *
    have hn64 : n < 64 := by
      apply Nat.lt_of_not_le
      intro hge
      obtain rfl : n = 64 := by omega
      rw [Nat.div_eq_of_lt hv] at hl
      omega
    have hodd := h1 hn64
    rcases Nat.lt_trichotomy n k with hlt | heq | hgt
    · exfalso
      have e : v / 2 ^ n = 2 ^ (k - n) * (2 * m + 1) := by
        rw [hm, show k = n + (k - n) by omega, Nat.pow_add, Nat.mul_assoc, Nat.mul_div_cancel_left _ (Nat.two_pow_pos n), Nat.add_sub_cancel_left]
      rw [e, show k - n = (k - n - 1) + 1 by omega, Nat.pow_succ] at hodd
      rw [Nat.mul_comm (2 ^ (k - n - 1)) 2, Nat.mul_assoc, Nat.mul_mod_right] at hodd
      omega
    · exact heq
    · exfalso
      apply h k hgt
      rw [hm, Nat.mul_div_cancel_left _ (Nat.two_pow_pos k)]
      omega
theorem between (v : Nat) (hv : v < 2 ^ 64) (h0 : v ≠ 0) : Lib.ctz 64 v < Lib.bitLen v ∧ Lib.bitLen v ≤ 64 := by
  obtain ⟨b1, b2, b3⟩ := Lib.bitLenAux_bounds 64 v hv h0
  obtain ⟨m, hm, hk⟩ := Lib.ctzFrom_spec 64 v (by omega) hv
  have e : Lib.ctz 64 v = Lib.ctzFrom 64 v := by simp [Lib.ctz, h0]
  refine ⟨?_, Lib.bitLen_le v 64 (by omega) hv⟩
  rw [e]
  have h1 : 2 ^ Lib.ctzFrom 64 v ≤ v := by
    have : 2 ^ Lib.ctzFrom 64 v * 1 ≤ 2 ^ Lib.ctzFrom 64 v * (2 * m + 1) := Nat.mul_le_mul_left _ (by omega)
    omega
  exact (Nat.pow_lt_pow_iff_right (by decide : 1 < 2)).1 (Nat.lt_of_le_of_lt h1 b3)
theorem bits64 (v : Nat) (hv : v < 18446744073709551616) : ∃ S : ByteArray, S.size = 64 ∧ (∀ n (h : n < S.size), (((S[n]'h).toNat : Int) == 48) = !decide (v / 2 ^ (63 - n) % 2 = 1)) ∧
    ∀ w, Calls Tryd.prog 46 #[.int .u64 v, .int .i64 64] w fun e w' => e = .returned (.string S) ∧ w = w' := by
  refine ⟨bstr (msb v 64), by rw [bstr_size, msb_length], fun n h => ?_, fun w => rbits_any v 64 w hv (by omega)⟩
  have hlt : n < 64 := by rw [bstr_size, msb_length] at h; exact h
  have hge := congrArg (fun x : UInt8 => ((x.toNat : Int) == 48)) (bstr_get (msb v 64) n h)
  simp only [chr_zero] at hge
  have hg := msb_get v 64 n hlt
  rw [List.getElem?_eq_getElem (by rw [msb_length]; exact hlt)] at hg
  rw [hge, Option.some.inj hg]
set_option maxHeartbeats 400000 in
theorem rlead_any (v : Nat) (w : World) (hv : v < 18446744073709551616) :
    Calls Tryd.prog 47 #[.int .u64 v] w fun e w' => e = .returned (.int .i64 ((64 - Lib.bitLen v : Nat) : Int)) ∧ w = w' := by
  obtain ⟨S, hz, hget, hcall⟩ := bits64 v hv
  have HC := Lib.hid hcall
  have HT := Lib.hid hget
  clear hcall hget
  go_enter Tryd.func47, Tryd.ntmps47
  go_wp2_with (go_at_call 46; refine (HC.out _).mono ?_; rintro e w' ⟨rfl, rfl⟩)
  go_loop [4] (fun v4 => ∃ n : Nat, n ≤ 64 ∧ v4 = .int .i64 n ∧ ∀ i, i < n → v / 2 ^ (63 - i) % 2 ≠ 1) (fun v4 => 64 - (intOf v4).toNat)
  case atStart => exact ⟨0, Nat.zero_le _, rfl, fun i h => by omega⟩
  case round =>
    obtain ⟨n, hn, rfl, hall⟩ := hrel
    have HA := Lib.hid hall
    clear hall
    by_cases hlt : n < 64
    · have hbi : n < S.size := by omega
      have hge := HT.out n hbi
      by_cases hb : v / 2 ^ (63 - n) % 2 = 1
      · have hb' : decide (v / 2 ^ (63 - n) % 2 = 1) = true := by simpa using hb
        rw [hb'] at hge
        have HB := Lib.hid hb
        clear hb hb'
        go_wp2
        go_ret
        refine ⟨?_, rfl⟩
        rw [← lead_is v n hv hn HA.out (fun _ => HB.out)]
        rfl
      · have hb' : decide (v / 2 ^ (63 - n) % 2 = 1) = false := by simpa using hb
        rw [hb'] at hge
        have HB := Lib.hid hb
        clear hb hb'
        go_wp2
        go_round
        case rel =>
          refine ⟨n + 1, by omega, by go_num, fun i hi => ?_⟩
          by_cases he : i = n
          · subst he; exact HB.out
          · exact HA.out i (by omega)
        case measure => simp [intOf]; omega
    · obtain rfl : n = 64 := by omega
      go_wp2
      go_ret
      refine ⟨?_, rfl⟩
      rw [← lead_is v 64 hv hn HA.out (fun h => by omega)]
      rfl
set_option maxHeartbeats 400000 in
theorem rtrail_any (v : Nat) (w : World) (hv : v < 18446744073709551616) :
    Calls Tryd.prog 48 #[.int .u64 v] w fun e w' => e = .returned (.int .i64 (Lib.ctz 64 v)) ∧ w = w' := by
  obtain ⟨S, hz, hget, hcall⟩ := bits64 v hv
  have HC := Lib.hid hcall
  have HT := Lib.hid hget
  clear hcall hget
  go_enter Tryd.func48, Tryd.ntmps48
  go_wp2_with (go_at_call 46; refine (HC.out _).mono ?_; rintro e w' ⟨rfl, rfl⟩)
  go_loop [4] (fun v4 => ∃ n : Nat, n ≤ 64 ∧ v4 = .int .i64 n ∧ ∀ i, i < n → v / 2 ^ i % 2 ≠ 1) (fun v4 => 64 - (intOf v4).toNat)
  case atStart => exact ⟨0, Nat.zero_le _, rfl, fun i h => by omega⟩
  case round =>
    obtain ⟨n, hn, rfl, hall⟩ := hrel
    have HA := Lib.hid hall
    clear hall
    by_cases hlt : n < 64
    · obtain ⟨k, hk⟩ : ∃ k, 63 - n = k := ⟨_, rfl⟩
      have hki : (63 : Int) - (n : Int) = (k : Int) := by omega
      have hkw : IntKind.i64.wrap ((63 : Int) - (n : Int)) = (k : Int) := by rw [hki]; exact IntWalk.i64_in _ (by omega)
      have hbi : k < S.size := by omega
      have hge := HT.out k hbi
      rw [show 63 - k = n by omega] at hge
      by_cases hb : v / 2 ^ n % 2 = 1
      · have hb' : decide (v / 2 ^ n % 2 = 1) = true := by simpa using hb
        rw [hb'] at hge
        have HB := Lib.hid hb
        clear hb hb'
        go_wp2
        go_ret
        refine ⟨?_, rfl⟩
        rw [← trail_is v n hv hn HA.out (fun _ => HB.out)]
        rfl
      · have hb' : decide (v / 2 ^ n % 2 = 1) = false := by simpa using hb
        rw [hb'] at hge
        have HB := Lib.hid hb
        clear hb hb'
        go_wp2
        go_round
        case rel =>
          refine ⟨n + 1, by omega, by go_num, fun i hi => ?_⟩
          by_cases he : i = n
          · subst he; exact HB.out
          · exact HA.out i (by omega)
        case measure => simp [intOf]; omega
    · obtain rfl : n = 64 := by omega
      go_wp2
      go_ret
      refine ⟨?_, rfl⟩
      rw [← trail_is v 64 hv hn HA.out (fun h => by omega)]
      rfl
end Go.Proofs.YtdidengokijcjaaDoor.BitsW
