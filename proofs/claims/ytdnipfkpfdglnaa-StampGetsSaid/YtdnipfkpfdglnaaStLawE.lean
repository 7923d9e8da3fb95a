/-
  StampSteady: THE PLAIN LAW, THE WALK.
-/
import Derived.Test.YtdnipfkpfdglnaaStLawD
namespace Go.Proofs.Ytdnipfkpfdglnaa.StW
open Go.RowKit Go.Shelf BitsM BitsW StM
def stepT (f d : Int) (i : Nat) : Int := wrap64 (f + (i : Int) * d)
def lstT (f d : Int) (m : Nat) : List Int := (List.range m).map (stepT f d)
theorem lstT_len (f d : Int) (m : Nat) : (lstT f d m).length = m := by simp [lstT]
theorem lstT_succ (f d : Int) (m : Nat) : lstT f d (m + 1) = lstT f d m ++ [stepT f d m] := by
  unfold lstT; rw [List.range_succ, List.map_append]; rfl
theorem lstT_ok (f d : Int) (m : Nat) : ∀ t ∈ lstT f d m, okI t := by
  intro t ht
  obtain ⟨i, _, rfl⟩ := List.mem_map.1 ht
  exact okI_wrap _
theorem stepT_zero {f d : Int} (h : okI f) : stepT f d 0 = f := by
  unfold stepT; rw [show f + ((0 : Nat) : Int) * d = f by simp, wrap_ok h]
theorem stepT_succ (f d : Int) (i : Nat) : stepT f d (i + 1) = wrap64 (stepT f d i + d) := by
  unfold stepT
  rw [wrap_addL, show f + ((i + 1 : Nat) : Int) * d = f + (i : Int) * d + d by rw [Int.natCast_add, Int.add_mul]; simp; omega]
theorem stepT_sub (f d : Int) (i : Nat) : wrap64 (stepT f d (i + 1) - stepT f d i) = wrap64 d := by
  rw [stepT_succ, wrap_subL, show stepT f d i + d - stepT f d i = d by omega]
theorem steady_state (f d : Int) : ∀ k : Nat, k ≤ 1000 → stAll s0 (lstT f d (k + 1)) = ((k : Int) + 1, stepT f d k, if k = 0 then 0 else wrap64 d)
  | 0, _ => rfl
  | k + 1, h => by
    rw [lstT_succ, stAll_snoc, steady_state f d k (by omega)]
    unfold aftS
    have hn : ¬ ((k : Int) + 1 = 0) := by omega
    simp only [if_neg hn]
    rw [wrap_ok (show okI ((k : Int) + 1 + 1) by unfold okI; omega), stepT_sub, if_neg (by omega)]
    simp
theorem steady_len (f d : Int) (hf : okI f) : ∀ k : Nat, k ≤ 1000 → (bitsAll s0 (lstT f d (k + 2))).length = 64 + (putS (1, f, 0) (wrap64 (f + d))).length + k
  | 0, _ => by
    rw [lstT_succ, bitsAll_snoc, List.length_append, steady_state f d 0 (by omega), stepT_zero hf, show stepT f d (0 + 1) = wrap64 (f + d) by rw [stepT_succ, stepT_zero hf]]
    have e : lstT f d (0 + 1) = [f] := by show [stepT f d 0] = [f]; rw [stepT_zero hf]
    rw [e]
    have e2 : (bitsAll s0 [f]).length = 64 := by
      show (msb (u64 f) 64 ++ []).length = 64
      rw [List.append_nil, msb_length]
    rw [e2]
    rfl
  | k + 1, h => by
    rw [lstT_succ, bitsAll_snoc, List.length_append, steady_len f d hf k (by omega), steady_state f d (k + 1) (by omega)]
    have e : (putS (((k + 1 : Nat) : Int) + 1, stepT f d (k + 1), if k + 1 = 0 then 0 else wrap64 d) (stepT f d (k + 2))).length = 1 := by
      unfold putS
      have hn : ¬ (((k + 1 : Nat) : Int) + 1 = 0) := by omega
      simp only [if_neg hn]
      have ec : chg (((k + 1 : Nat) : Int) + 1, stepT f d (k + 1), if k + 1 = 0 then 0 else wrap64 d) (stepT f d (k + 2)) = 0 := by
        unfold chg
        simp only []
        rw [stepT_sub, if_neg (by omega), Int.sub_self]; exact wrap_ok (by unfold okI; omega)
      rw [ec, codeC_len]; rfl
    rw [e]; omega
theorem steady_bytes (f d : Int) (hf : okI f) (m : Nat) (h : m ≤ 1000) (h2 : 2 ≤ m) : (⟨(pack (bitsAll s0 (lstT f d m))).toArray⟩ : ByteArray).size = (64 + (putS (1, f, 0) (wrap64 (f + d))).length + (m - 2) + 7) / 8 := by
  obtain ⟨k, rfl⟩ : ∃ k, m = k + 2 := ⟨m - 2, by omega⟩
  simp only [ByteArray.size, List.size_toArray, pack_length]
  rw [steady_len f d hf k (by omega), show k + 2 - 2 = k by omega]
theorem few_bytes (f d : Int) (m : Nat) (h2 : m < 2) : (⟨(pack (bitsAll s0 (lstT f d m))).toArray⟩ : ByteArray).size = 8 * m := by
  have : m = 0 ∨ m = 1 := by omega
  rcases this with rfl | rfl
  · simp [ByteArray.size, pack_length, lstT, bitsAll]
  · simp only [ByteArray.size, List.size_toArray, pack_length]
    have e2 : (bitsAll s0 (lstT f d 1)).length = 64 := by
      show (msb (u64 (stepT f d 0)) 64 ++ []).length = 64
      rw [List.append_nil, msb_length]
    rw [e2]
set_option maxRecDepth 20000 in
set_option maxHeartbeats 4000000 in
theorem stampSteady_all (f d : Int) (n : Nat) (w : World) (hf : okI f) (hn : n ≤ 255) :
    Calls Try.prog 7 #[.int .i64 f, .int .i64 d, .int .u8 (n : Int)] w fun e w' => e = .returned (.bool true) ∧ Below w.heap.size w w' := by
  obtain ⟨m, hm⟩ : ∃ m, n % 60 = m := ⟨_, rfl⟩
  have hmi : (n : Int) % 60 = (m : Int) := by omega
  have hm60 : m < 60 := by omega
  have HST := Lib.hid (fun i => stepT_succ f d i)
  have HF := Lib.hid hf
  clear hm hf
  go_enter Try.func7, Try.ntmps7
  go_wp2_with fail
  refine (works_any _).mono ?_
  rintro e w1 ⟨rfl, hb1⟩
  have HB1 := Lib.hid hb1
  clear hb1
  go_wp2_with fail
  go_loopw [8, 9, 10] (fun v8 v9 v10 wr => ∃ k : Nat, k ≤ m ∧ v10 = .int .i64 k ∧ v9 = .int .i64 (stepT f d k) ∧ Below w.heap.size w wr ∧ wr.ownsRow w.heap.size 2 1 v8 k ((lstT f d k).flatMap encI)) (fun _ _ v10 _ => m - (intOf v10).toNat)
  case atStart => exact ⟨0, Nat.zero_le _, rfl, by rw [stepT_zero HF.out], HB1.out, World.ownsRow_nil _ _ _ _⟩
  case round =>
    obtain ⟨k, hk, rfl, rfl, ho, hown⟩ := hrel
    by_cases hlt : k < m
    · have HO := Lib.hid ho
      have hst := HST.out k
      have hsc := lstT_succ f d k
      have HS := Lib.hid (And.intro hst hsc)
      generalize stepT f d k = t at *
      clear ho hst hsc
      go_wp2_with (at_builtin; go_must (refine wpList_append_one rfl _ _ 47 rfl w.heap.size 2 (.int .i64 0) 1 8 Try.underlying47 elemI64 rfl (by decide) wr hown rfl _ rfl rfl (one1 rfl) (by omega) (by omega) HO.out.size ?_); intro v' w' hown' hb' hz')
      go_roundw
      case rel =>
        refine ⟨k + 1, by omega, by go_num, by rw [HS.out.1], HO.out.trans hb', ?_⟩
        rw [HS.out.2, List.flatMap_append]
        exact hown'
      case measure => simp [intOf]; omega
    · obtain rfl : k = m := by omega
      have hml := lstT_len f d k
      obtain ⟨A2, c2, rfl, -, hcm⟩ := Comes.of_own (okA := okI) hown (fun _ => rfl) (by decide) (lstT_ok f d k)
      have HB := Lib.hid ho
      have HCM := Lib.hid hcm
      have HBY := Lib.hid (And.intro (fun h => few_bytes f d k h) (fun h => steady_bytes f d HF.out k (by omega) h))
      have hkc : k ≤ c2 := by have := hcm.le; omega
      have hcc : c2 ≤ 9223372036854775807 := hcm.cap
      clear ho hcm hown hml
      go_wp2_with fail
      refine (all_any A2 k c2 _ _ HCM.out (by omega)).mono ?_
      rintro e w2 ⟨rfl, hb2⟩
      have HB2 := Lib.hid (later HB.out hb2)
      clear hb2
      generalize (⟨(pack (bitsAll s0 (lstT f d k))).toArray⟩ : ByteArray) = sb at *
      by_cases h2 : k < 2
      · have hsz := HBY.out.1 h2
        go_wp2_with fail
        go_ret
        exact ⟨rfl, HB2.out⟩
      · have hsz := HBY.out.2 (by omega)
        have HC := Lib.hid (cost_any (1, f, 0) (wrap64 (f + d)))
        have hcl := putS_len (1, f, 0) (wrap64 (f + d))
        generalize (putS (1, f, 0) (wrap64 (f + d))).length = z at *
        go_wp2_with fail
        refine (HC.out _).mono ?_
        rintro e w3 ⟨rfl, hb3⟩
        have HB3 := Lib.hid (later HB2.out hb3)
        clear hb3
        go_wp2_with fail
        go_ret
        have e9 : ((64 + (z : Int) + ((k - 2 : Nat) : Int) + 7) / 8 == (64 + (z : Int) + (k : Int) - 2 + 7) / 8) = true := by simp; omega
        exact ⟨congrArg (fun b => Ending.returned (.bool b)) e9, HB3.out⟩
end Go.Proofs.Ytdnipfkpfdglnaa.StW
