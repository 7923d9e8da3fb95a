/-
  THE WALKS OF THE DOCUMENT's ANSWER FOR THE CHECK (alluviumref01), bit by bit.
-/
import Derived.Test.YtmaehbcjcifchaaCrcWalk
import Derived.Deep.DeepMust
namespace Go.Proofs.Ytmaehbcjcifchaa.CrcW
open Go.RowKit CrcM
attribute [local go_sem] w_mod w_byte
/-- One turn, as the document has it. -/
theorem ref_odd (c : BitVec 32) (h : ((c.toNat : Int) % 2 == 1) = true) : bits .xor .u32 ((c.toNat : Int) / 2) 2197175160 = ((tstep c).toNat : Int) := by
  refine round_odd c ?_
  rw [and1]
  have h' : (c.toNat : Int) % 2 = 1 := by simpa using h
  have h0 : c.getLsbD 0 = true := by
    rw [BitVec.getLsbD, Nat.testBit_zero]
    simp; omega
  rw [h0]; rfl
theorem ref_even (c : BitVec 32) (h : ((c.toNat : Int) % 2 == 1) = false) : (c.toNat : Int) / 2 = ((tstep c).toNat : Int) := by
  refine round_even c ?_
  rw [and1]
  have h' : ¬ (c.toNat : Int) % 2 = 1 := by simpa using h
  have h0 : c.getLsbD 0 = false := by
    rw [BitVec.getLsbD, Nat.testBit_zero]
    simp; omega
  rw [h0]; rfl
set_option maxHeartbeats 400000 in
theorem run_any (c : BitVec 32) (s : ByteArray) (w : World) (hs : s.size ≤ maxLen) :
    Calls Try.prog 35 #[vu32 c, .string s] w fun e w' => e = .returned (vu32 (crun c s.data.toList)) ∧ w = w' := by
  unfold maxLen at hs
  go_enter Try.func35, Try.ntmps35
  go_wp2
  go_loop [0, 5, 6, 7] (fun v0 v5 _ _ => ∃ k : Nat, k ≤ s.size ∧ v5 = .int .i64 k ∧ v0 = vu32 (crun c (s.data.toList.take k))) (fun _ v5 _ _ => s.size - (intOf v5).toNat)
  case atStart => exact ⟨0, Nat.zero_le _, rfl, rfl⟩
  case round =>
    obtain ⟨k, hk, rfl, rfl⟩ := hrel
    by_cases hlt : k < s.size
    · generalize hd : crun c (s.data.toList.take k) = d
      have Hd := Lib.hid hd
      clear hd
      go_wp2
      go_loop [0, 6, 7] (fun v0 v6 _ => ∃ j : Nat, j ≤ 8 ∧ v6 = .int .i64 j ∧ v0 = vu32 (tsteps j (xb d s[k]))) (fun _ v6 _ => 8 - (intOf v6).toNat)
      case atStart => exact ⟨0, Nat.zero_le _, rfl, rfl⟩
      case round =>
        obtain ⟨j, hj, rfl, rfl⟩ := hrel
        by_cases hlj : j < 8
        · go_wp2
          all_goals
            go_round
            case rel => exact ⟨j + 1, by omega, by go_num, by first | exact congrArg _ (ref_odd _ (by assumption)) | exact congrArg _ (ref_even _ (by assumption))⟩
            case measure => simp [intOf]; omega
        · obtain rfl : j = 8 := by omega
          go_wp2
          go_round
          case rel =>
            refine ⟨k + 1, by omega, by go_num, congrArg (fun x : BitVec 32 => vu32 x) ?_⟩
            rw [take_snoc s k hlt, crun_snoc, Hd.out]; rfl
          case measure => simp [intOf]; omega
    · obtain rfl : k = s.size := by omega
      go_wp2
      go_ret
      refine ⟨?_, rfl⟩
      rw [List.take_of_length_le (by simp)]
      rfl
theorem sub_u32 (c : BitVec 32) : (4294967295 - (c.toNat : Int)) = ((nt c).toNat : Int) := by
  have := c.isLt
  simp [nt, BitVec.toNat_not]; omega
theorem w_sub (c : BitVec 32) : IntKind.u32.wrap (4294967295 - (c.toNat : Int)) = ((nt c).toNat : Int) := by
  rw [sub_u32, IntWalk.u32_in _ (by have := (nt c).isLt; omega)]
theorem all_u32 : (4294967295 : Int) = ((nt 0#32).toNat : Int) := by decide
set_option maxHeartbeats 400000 in
theorem rof_any (s : ByteArray) (w : World) (hs : s.size ≤ maxLen) :
    Calls Try.prog 27 #[.string s] w fun e w' => e = .returned (vu32 (cof s.data.toList)) ∧ w = w' := by
  have hr := run_any (nt 0#32) s w hs
  simp only [vu32, ← all_u32] at hr
  have Hr := Lib.hid hr
  clear hr
  go_enter Try.func27, Try.ntmps27
  go_wp2_with (go_at_call 35; refine Hr.out.mono ?_; rintro e w' ⟨rfl, rfl⟩)
  go_ret
  refine ⟨?_, rfl⟩
  rw [sub_u32]; rfl
theorem elem_u8 : Elem Try.prog 5 (.int .u8 0) 1 1 := by unfold Elem; kernel_rfl
theorem nth_byte (c : BitVec 32) (k : Nat) (hk : k < 4) : (cbytes c)[k]? = some (UInt8.ofNat (c.toNat / 256 ^ k % 256)) := by
  rcases (show k = 0 ∨ k = 1 ∨ k = 2 ∨ k = 3 by omega) with rfl | rfl | rfl | rfl <;> simp [cbytes]
set_option maxHeartbeats 400000 in
theorem rtail_any (s : ByteArray) (w : World) (hs : s.size ≤ maxLen) :
    Calls Try.prog 19 #[.string s] w fun e w' => e = .returned (.string ⟨(ctail s.data.toList).toArray⟩) ∧ Below w.heap.size w w' := by
  go_enter Try.func19, Try.ntmps19
  go_wp2_with (go_at_call 27; refine (rof_any s _ hs).mono ?_; rintro e w' ⟨rfl, rfl⟩)
  have Hc : Hid (ctail s.data.toList = cbytes (cof s.data.toList)) := rfl
  generalize cof s.data.toList = c at Hc ⊢
  go_loopw [3, 4, 5] (fun v3 v4 v5 wr => ∃ k : Nat, k ≤ 4 ∧ v5 = .int .i64 k ∧ v3 = .int .u32 ((c.toNat : Int) / 256 ^ k) ∧ wr.ownsRow w.heap.size 5 1 v4 k (byteCells ((cbytes c).take k)) ∧ Below w.heap.size w wr) (fun _ _ v5 _ => 4 - (intOf v5).toNat)
  case atStart => 
    refine ⟨0, by omega, rfl, by simp, World.ownsRow_nil _ _ _ _, Below.refl _ _⟩
  case round =>
    obtain ⟨k, hk, rfl, rfl, hown, hb⟩ := hrel
    by_cases hlt : k < 4
    · have h1 : 0 ≤ (c.toNat : Int) / 256 ^ k := Int.ediv_nonneg (by omega) (Int.pow_nonneg (by omega))
      have h2 : (c.toNat : Int) / 256 ^ k ≤ 4294967295 := by
        have := c.isLt
        have := Int.ediv_le_self (a := (c.toNat : Int)) (256 ^ k) (by omega)
        omega
      generalize hq : (c.toNat : Int) / 256 ^ k = q at h1 h2 ⊢
      have Hq := Lib.hid hq
      clear hq
      go_wp2_with (at_builtin; go_must (refine wpList_append_one rfl _ _ 39 rfl w.heap.size 5 (.int .u8 0) 1 1 Try.underlying39 elem_u8 rfl (by decide) wr hown rfl _ rfl rfl (one1 rfl) (by omega) (by omega) hb.size ?_); intro v' w' hown' hb' hz'; clear hown)
      go_roundw
      case rel =>
        refine ⟨k + 1, by omega, by go_num, ?_, ?_, hb.trans hb'⟩
        · rw [← Hq.out, Int.pow_succ, Int.ediv_ediv_of_nonneg (Int.pow_nonneg (by omega))]
        · have e : (cbytes c).take (k + 1) = (cbytes c).take k ++ [UInt8.ofNat (c.toNat / 256 ^ k % 256)] := by
            rw [List.take_add_one, nth_byte c k hlt]; rfl
          rw [e, byteCells_append]
          have e2 : byteCells [UInt8.ofNat (c.toNat / 256 ^ k % 256)] = [Value.int .u8 (q % 256)] := by
            rw [← Hq.out]; simp [byteCells]
          rw [e2]; exact hown'
      case measure => simp [intOf]; omega
    · obtain rfl : k = 4 := by omega
      have hconv := conv_owned (P := Try.prog) (src := 39) (dst := 9) Try.underlying39 Try.underlying5 Try.underlying9 hown
      clear hown
      go_wp2
      go_ret
      refine ⟨?_, hb⟩
      rw [Hc.out, List.take_of_length_le (by simp [cbytes])]
      rfl
end Go.Proofs.Ytmaehbcjcifchaa.CrcW
