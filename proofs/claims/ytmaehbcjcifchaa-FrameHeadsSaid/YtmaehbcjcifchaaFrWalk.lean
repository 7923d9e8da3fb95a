/-
  NUMBERS AS BYTES: num.Small, num.Text; frame.checked, frame.Put: THE WALKS.
-/
import Derived.Test.YtmaehbcjcifchaaFrMath
import Derived.Test.YtmaehbcjcifchaaCrcWalk
import Derived.Laws.BitsAllLaws
namespace Go.Proofs.Ytmaehbcjcifchaa.FrW
set_option linter.unusedVariables false
open Go.RowKit CrcM CrcW FrM
/-- The first bytes of a row. -/
def HasB (cs : Array Value) (pre : List UInt8) : Prop := cs.size = 10 ∧ ∀ j (h : j < pre.length), cs[j]? = some (.int .u8 ((pre[j]'h).toNat : Int))
theorem HasB.set {cs : Array Value} {pre : List UInt8} (h : HasB cs pre) (hl : pre.length < 10) (b : UInt8) {i : Nat} (hi : pre.length = i) : HasB (cs.setIfInBounds i (.int .u8 (b.toNat : Int))) (pre ++ [b]) := by
  subst hi
  refine ⟨by simp [h.1], fun j hj => ?_⟩
  by_cases e : j = pre.length
  · subst e
    rw [Array.getElem?_setIfInBounds_self_of_lt (by rw [h.1]; omega)]
    simp
  · have hj2 : j < pre.length := by rw [List.length_append, List.length_singleton] at hj; omega
    rw [Array.getElem?_setIfInBounds_ne (by omega), h.2 j hj2, List.getElem_append_left]
theorem or_byte (m : Nat) : bits .or .u8 ((m : Int) % 256) 128 = ((UInt8.ofNat (m % 128 + 128)).toNat : Int) := by
  rw [byte_nat _ (by omega)]
  have h1 : (m : Int) % 256 = ((m % 256 : Nat) : Int) := by omega
  have : ∀ x : Fin 256, bits .or .u8 ((x.val : Nat) : Int) 128 = ((x.val % 128 + 128 : Nat) : Int) := by decide +kernel
  rw [h1, this ⟨m % 256, by omega⟩]
  show ((m % 256 % 128 + 128 : Nat) : Int) = _
  omega
theorem sm_more {f m : Nat} (h : ¬ m < 128) : sm (f + 1) m = UInt8.ofNat (m % 128 + 128) :: sm f (m / 128) := by
  show (if m < 128 then _ else _) = _
  rw [if_neg h]
theorem sm_last {f m : Nat} (h : m < 128) : sm f m = [UInt8.ofNat m] := by
  cases f with
  | zero => rfl
  | succ f => show (if m < 128 then _ else _) = _; rw [if_pos h]
theorem info_ten : (Try.prog.info? 68).map (·.size) = some 10 := by kernel_rfl
theorem ten_len : Try.prog.arrayLen 68 = 10 := by kernel_rfl
theorem ten_under : Try.prog.underlying 68 = some (.array (Try.prog.arrayLen 68) (Try.prog.elem 68)) := by kernel_rfl
theorem ten_size : Try.prog.elem 68 = 5 := by kernel_rfl
theorem slice_ten (g i : Nat) (hi : i < 10) (w : World) : (Instr.sliceAt 68 (.pointer (some ⟨g, 0, none⟩)) none (some (.int .i64 ((i : Int) + 1))) none).run Try.prog w = .ok (.slice (some ⟨g, 0, none⟩) (i + 1) 10) w := by
  have e : ((i : Int) + 1).toNat = i + 1 := by omega
  rw [run_sliceAt_array_h w _ _ ten_under .i64 _ (by omega) (by rw [ten_len]; omega), ten_len, ten_size, e]
  simp [slicedAt, go_sem]
set_option maxRecDepth 20000 in
set_option maxHeartbeats 2000000 in
theorem small_any (n : Nat) (w : World) (hn : n < 18446744073709551616) :
    Calls Try.prog 32 #[.int .u64 (n : Int)] w fun e w' => e = .returned (.string ⟨(small n).toArray⟩) ∧ Below w.heap.size w w' := by
  have HN := Lib.hid hn
  obtain ⟨S, hS⟩ : ∃ S, small n = S := ⟨_, rfl⟩
  rw [hS]
  have HS := Lib.hid hS
  clear hS
  go_enter Try.func32, Try.ntmps32
  go_wp2_with fail
  go_loopw [0, 4] (fun v0 v4 wr => ∃ (i m : Nat) (cs : Array Value) (pre : List UInt8), i ≤ 9 ∧ v4 = .int .i64 i ∧ v0 = .int .u64 m ∧ m < 2 * 128 ^ (9 - i) ∧ pre.length = i ∧ S = pre ++ sm (9 - i) m ∧ HasB cs pre ∧ Below w.heap.size w wr ∧ wr.heap[w.heap.size]? = some (.cells cs 68 (0, 0))) (fun v0 _ _ => (intOf v0).toNat)
  case atStart =>
    exact ⟨0, n, _, [], by omega, rfl, rfl, by rw [show 9 - 0 = 9 from rfl, num_two]; exact HN.out, rfl, HS.out.symm, ⟨rfl, fun j h => by simp at h⟩, (Below.refl _ _).alloc (Nat.le_refl _) _, heap_alloc_new w _⟩
  case round =>
    obtain ⟨i, m, cs, pre, hi, rfl, rfl, hm, hpl, hpre, hb, ho, hc⟩ := hrel
    have hcell : wr.cell? ⟨w.heap.size, i, none⟩ = some cs[i]! := by
      rw [cell_of_row wr _ i cs _ _ hc]; have := hb.1; simp [show i < cs.size by omega]
    have hfro : wr.frozen? ⟨w.heap.size, i, none⟩ = false := frozen_of_row wr _ i cs _ hc
    have i0 : (0 : Int) ≤ (i : Int) := by omega
    have i1 : (i : Int) < 10 := by omega
    have HO := Lib.hid (And.intro ho hc)
    have HB := Lib.hid (And.intro hb (And.intro hpl hpre))
    have HM := Lib.hid hm
    clear ho hc hb hpl hpre hm
    by_cases hlt : m < 128
    · obtain ⟨y, hy⟩ : ∃ y, UInt8.ofNat m = y := ⟨_, rfl⟩
      have hyn : y.toNat = m := by rw [← hy, byte_nat _ (by omega)]
      have hS : S = pre ++ [y] := by rw [HB.out.2.2, sm_last hlt, hy]
      have hlen : S.length = i + 1 := by rw [hS, List.length_append, HB.out.2.1]; rfl
      have hconv : (convert 39 9 (.slice (some ⟨w.heap.size, 0, none⟩) (i + 1) 10)).run Try.prog (wr.setCell ⟨w.heap.size, i, none⟩ (.int .u8 (m : Int))) = .ok (.string ⟨S.toArray⟩) (wr.setCell ⟨w.heap.size, i, none⟩ (.int .u8 (m : Int))) := by
        rw [← hlen]
        refine run_convert_bytes_back (P := Try.prog) _ 39 9 5 ⟨w.heap.size, 0, none⟩ 10 S Try.underlying39 Try.underlying5 Try.underlying9 ?_
        intro j hj
        have ha : (⟨w.heap.size, 0, none⟩ : Addr).add j = ⟨w.heap.size, j, none⟩ := by unfold Addr.add; split <;> simp_all
        have hrow := heap_setCell_same wr w.heap.size i cs _ (.int .u8 (m : Int)) HO.out.2
        rw [← hyn] at hrow
        have h2 := (HB.out.1.set (by rw [HB.out.2.1]; omega) y HB.out.2.1).2 j (by rw [← hS]; exact hj)
        rw [← hyn, ha, cell_of_row _ _ j _ _ _ hrow, h2]
        simp only [hS]
      have HF := Lib.hid (show Below w.heap.size w (wr.setCell ⟨w.heap.size, i, none⟩ (.int .u8 (m : Int))) from HO.out.1.setCell (Nat.le_refl _) _)
      have hsl := fun W => slice_ten w.heap.size i (by omega) W
      clear hy hyn hS hlen HS
      go_wp2
      go_ret
      exact ⟨rfl, HF.out⟩
    · have hi8 : i < 9 := by
        have h := HM.out
        by_cases h9 : i = 9
        · subst h9; have : m < 2 := by simpa using h
          omega
        · omega
      obtain ⟨y, hy⟩ : ∃ y, UInt8.ofNat (m % 128 + 128) = y := ⟨_, rfl⟩
      have hor := or_byte m
      rw [hy] at hor
      have hdiv : (m : Int) / 128 = ((m / 128 : Nat) : Int) := by omega
      have hsm : sm (9 - i) m = y :: sm (9 - (i + 1)) (m / 128) := by
        rw [show 9 - i = (9 - (i + 1)) + 1 by omega, sm_more hlt, hy]
      have hm2 : m / 128 < 2 * 128 ^ (9 - (i + 1)) := by
        have h := HM.out
        rw [show 9 - i = (9 - (i + 1)) + 1 by omega, Nat.pow_succ] at h
        rw [Nat.div_lt_iff_lt_mul (by omega)]; omega
      obtain ⟨m2, hmm⟩ : ∃ m2, m / 128 = m2 := ⟨_, rfl⟩
      have hlt2 : m2 < m := by omega
      rw [hmm] at hdiv hsm hm2
      have HR := Lib.hid (And.intro hsm (And.intro hm2 hlt2))
      clear hy hsm hm2 hmm hlt2
      go_wp2_with fail
      go_roundw
      case rel =>
        refine ⟨i + 1, m2, _, pre ++ [y], by omega, by go_num, rfl, HR.out.2.1, by rw [List.length_append, HB.out.2.1]; rfl, ?_, HB.out.1.set (by rw [HB.out.2.1]; omega) y HB.out.2.1, HO.out.1.setCell (Nat.le_refl _) _, heap_setCell_same wr _ i cs _ _ HO.out.2⟩
        rw [HB.out.2.2, HR.out.1, List.append_assoc]; rfl
      case measure =>
        have := HR.out.2.2
        simp [intOf]; omega
end Go.Proofs.Ytmaehbcjcifchaa.FrW
