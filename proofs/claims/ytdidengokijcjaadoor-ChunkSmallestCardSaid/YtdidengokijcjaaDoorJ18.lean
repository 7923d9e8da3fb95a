/-
  THE WALKS OF THE CHECK (package crc).
  chunk.Put: THE WALK.
-/
import Derived.Test.YtdidengokijcjaaDoorRows
import Derived.Test.YtdidengokijcjaaDoorJ01
import Derived.Test.YtdidengokijcjaaDoorJ02
import Derived.Handy
import Derived.Deep.QuietTactic
import Derived.BigQuiet
import Derived.Test.YtdidengokijcjaaDoorJ17
import Derived.Test.YtdidengokijcjaaDoorJ13
/-
  THE WALKS OF THE CHECK (package crc).
-/
namespace Go.Proofs.YtdidengokijcjaaDoor.CrcW
open Go.RowKit CrcM

/-- A number of 32 bits as a value. -/
abbrev vu32 (x : BitVec 32) : Value := .int .u32 (x.toNat : Int)
theorem shr1 (c : BitVec 32) : ((c >>> 1).toNat : Int) = (c.toNat : Int) / 2 := by
  simp [Nat.shiftRight_eq_div_pow]
theorem shr4 (c : BitVec 32) : ((c >>> 4).toNat : Int) = (c.toNat : Int) / 16 := by
  simp [Nat.shiftRight_eq_div_pow]
theorem xor_u32 (a b : BitVec 32) : bits .xor .u32 (a.toNat : Int) (b.toNat : Int) = ((a ^^^ b).toNat : Int) := by
  rw [u32_xor_nat _ _ a.isLt b.isLt, BitVec.toNat_xor]
theorem and1 (c : BitVec 32) : bits .and .u32 (c.toNat : Int) 1 = if c.getLsbD 0 then 1 else 0 := by
  have h := u32_and_nat c.toNat 1 c.isLt (by decide)
  rw [show ((1 : Nat) : Int) = 1 from rfl] at h
  rw [h, nat_mask1, BitVec.getLsbD, Nat.testBit_zero]
  have := Nat.mod_two_eq_zero_or_one c.toNat
  rcases this with h | h <;> simp [h]
theorem round_odd (c : BitVec 32) (h : (bits .and .u32 (c.toNat : Int) 1 != 0) = true) : bits .xor .u32 ((c.toNat : Int) / 2) 2197175160 = ((tstep c).toNat : Int) := by
  rw [and1] at h
  have h0 : c.getLsbD 0 = true := by
    split at h
    · assumption
    · simp at h
  have e : (2197175160 : Int) = ((poly.toNat : Nat) : Int) := rfl
  rw [e, ← shr1, xor_u32]
  unfold tstep
  rw [if_pos h0]
theorem round_even (c : BitVec 32) (h : (bits .and .u32 (c.toNat : Int) 1 != 0) = false) : (c.toNat : Int) / 2 = ((tstep c).toNat : Int) := by
  rw [and1] at h
  have h0 : c.getLsbD 0 = false := by
    split at h
    · simp at h
    · exact Bool.eq_false_iff.2 (by assumption)
  rw [← shr1]
  unfold tstep
  rw [h0]; rfl
/-- The table of halves, as a row of cells: the first k of them are there. -/
def Tab (k : Nat) (cs : Array Value) : Prop := cs.size = 16 ∧ ∀ i, i < k → cs[i]? = some (vu32 (half (BitVec.ofNat 32 i)))
theorem Tab.set {k : Nat} {cs : Array Value} (h : Tab k cs) (hk : k < 16) {v : Value} (hv : v = vu32 (half (BitVec.ofNat 32 k))) : Tab (k + 1) (cs.setIfInBounds k v) := by
  refine ⟨by simp [h.1], fun i hi => ?_⟩
  by_cases e : i = k
  · subst e; rw [Array.getElem?_setIfInBounds_self_of_lt (by rw [h.1]; omega), hv]
  · rw [Array.getElem?_setIfInBounds_ne (by omega)]; exact h.2 i (by omega)
theorem Tab.one {cs : Array Value} (h : Tab 16 cs) : cs.all (·.oneCell') = true := by
  rw [Array.all_eq_true]
  intro i hi
  have := h.2 i (by have := h.1; omega)
  rw [Array.getElem?_eq_getElem hi] at this
  rw [Option.some.inj this]; rfl
theorem info38 : (Tryd.prog.info? 95).map (·.size) = some 16 := by kernel_rfl
set_option maxHeartbeats 400000 in
theorem halves_any (w : World) :
    Calls Tryd.prog 66 #[] w fun e w' => ∃ cs, Tab 16 cs ∧ e = .returned (.agg cs) ∧ Below w.heap.size w w' := by
  go_enter Tryd.func66, Tryd.ntmps66
  go_wp2
  go_loopw [2, 3, 4, 5] (fun _ _ _ v5 wr => ∃ (k : Nat) (cs0 cs : Array Value), k ≤ 16 ∧ v5 = .int .i64 k ∧ Below w.heap.size w wr ∧ wr.heap[w.heap.size]? = some (.cells cs0 95 (0, 0)) ∧ cs0.size = 16 ∧ wr.heap[w.heap.size + 1]? = some (.cells cs 95 (0, 0)) ∧ Tab k cs)
    (fun _ _ _ v5 _ => 16 - (intOf v5).toNat)
  case atStart =>
    refine ⟨0, _, _, by omega, rfl, ((Below.refl _ _).alloc (Nat.le_refl _) _).alloc (by simp) _, heap_alloc2_old _ _ _, rfl, heap_alloc2_new _ _ _, rfl, fun i hi => by omega⟩
  case round =>
    obtain ⟨k, cs0, cs, hk, rfl, hb, hc0, hs0, hc, ht⟩ := hrel
    have hcell : k < 16 → wr.cell? ⟨w.heap.size + 1, k, none⟩ = some cs[k]! := fun h => by
      rw [cell_of_row wr _ k cs _ _ hc]; have := ht.1; simp [h, this]
    have hfro : wr.frozen? ⟨w.heap.size + 1, k, none⟩ = false := frozen_of_row wr _ k cs _ hc
    by_cases hlt : k < 16
    · have hcell' := hcell hlt
      clear hcell
      go_wp2
      go_loop [3, 4, 10] (fun v3 _ v10 => ∃ j : Nat, j ≤ 4 ∧ v10 = .int .i64 j ∧ v3 = vu32 (tsteps j (BitVec.ofNat 32 k)))  (fun _ _ v10 => 4 - (intOf v10).toNat)
      case atStart =>
        refine ⟨0, by omega, rfl, ?_⟩
        simp [tsteps]; omega
      case round =>
        obtain ⟨j, hj, rfl, rfl⟩ := hrel
        by_cases hlj : j < 4
        · go_wp2
          all_goals
            go_round
            case rel => exact ⟨j + 1, by omega, by go_num, by first | exact congrArg _ (round_odd _ (by assumption)) | exact congrArg _ (round_even _ (by assumption))⟩
            case measure => simp [intOf]; omega
        · obtain rfl : j = 4 := by omega
          go_wp2
          go_roundw
          case rel =>
            refine ⟨k + 1, cs0, _, by omega, by go_num, hb.setCell (by simp) _, ?_, hs0, heap_setCell_same wr _ k cs _ _ hc, ht.set hlt rfl⟩
            rw [heap_setCell_other _ _ _ _ (by simp)]; exact hc0
          case measure => simp [intOf]; omega
    · obtain rfl : k = 16 := by omega
      clear hfro hcell
      have hload : (Tryd.prog.info? 95).map (·.size) = some cs.size := by rw [ht.1]; exact info38
      have hone : cs.all (·.oneCell') = true := ht.one
      have hb' : Below w.heap.size w (wr.setRow w.heap.size cs) := below_setRow hb (Nat.le_refl _) _
      have hres : (wr.setRow w.heap.size cs).heap[w.heap.size]? = some (.cells cs 95 (0, 0)) := setRow_heap wr _ _ cs _ _ hc0
      go_wp2_with (first | (refine wpList_load_row rfl 95 _ rfl (w.heap.size + 1) rfl 95 cs (0, 0) _ hc Tryd.underlying95 rfl hload ?_) | (refine wpList_store_row rfl 95 _ _ rfl w.heap.size cs rfl rfl 95 cs0 hc0 hload (hs0.trans ht.1.symm) hone ?_))
      exact bodyPost_ret (v := .agg cs) (results_cell_row (Tryd.results66) _ _ w.heap.size 95 cs (0, 0) _ rfl hres Tryd.underlying95 rfl hload) rfl ⟨cs, ht, rfl, hb'⟩

/-! What stands in the walk's frame is kept behind names of its own, which simp does not open. -/
def xr (a b : BitVec 32) : BitVec 32 := a ^^^ b
def xb (a : BitVec 32) (x : UInt8) : BitVec 32 := a ^^^ BitVec.ofNat 32 x.toNat
def lo4 (c : BitVec 32) : BitVec 32 := c &&& 15#32
def hi4 (c : BitVec 32) : BitVec 32 := c >>> 4
def nt (c : BitVec 32) : BitVec 32 := ~~~ c
theorem w_xor (a b : BitVec 32) : bits .xor .u32 (a.toNat : Int) (b.toNat : Int) = ((xr a b).toNat : Int) := xor_u32 a b
theorem w_byte (a : BitVec 32) (x : UInt8) : bits .xor .u32 (a.toNat : Int) (x.toNat : Int) = ((xb a x).toNat : Int) := by
  unfold xb
  rw [← xor_u32]; congr 2; have := x.toNat_lt; simp
theorem w_hi (c : BitVec 32) : (c.toNat : Int) / 16 = ((hi4 c).toNat : Int) := (shr4 c).symm
theorem w_lo (c : BitVec 32) : bits .and .u32 (c.toNat : Int) 15 = ((lo4 c).toNat : Int) := by
  have h := u32_and_nat c.toNat 15 c.isLt (by decide)
  rw [show ((15 : Nat) : Int) = 15 from rfl] at h
  rw [h]; simp [lo4]
theorem lo4_lt (c : BitVec 32) : (lo4 c).toNat < 16 := by
  unfold lo4
  rw [BitVec.toNat_and]; exact Nat.lt_of_le_of_lt Nat.and_le_right (by decide)
theorem u32_max : IntKind.u32.max = ((BitVec.allOnes 32).toNat : Int) := by decide
theorem w_not (c : BitVec 32) : bits .xor .u32 IntKind.u32.max (c.toNat : Int) = ((nt c).toNat : Int) := by
  rw [u32_max, xor_u32]
  rw [BitVec.allOnes_xor]; rfl
theorem w_mod (x : UInt8) : (x.toNat : Int) % 4294967296 = (x.toNat : Int) := by have := x.toNat_lt; omega
attribute [local go_sem] w_mod w_xor w_byte w_hi w_lo
/-- One byte, by two halves. -/
theorem two_halves (c : BitVec 32) (x : UInt8) :
    xr (half (lo4 (xr (half (lo4 (xb c x))) (hi4 (xb c x))))) (hi4 (xr (half (lo4 (xb c x))) (hi4 (xb c x)))) = byteStep c x := by
  have e1 : ∀ d : BitVec 32, xr (half (lo4 d)) (hi4 d) = tsteps 4 d := fun d => (nibble d).symm
  rw [e1, e1, ← tsteps_add]; rfl
theorem take_snoc (s : ByteArray) (k : Nat) (h : k < s.size) : s.data.toList.take (k + 1) = s.data.toList.take k ++ [s[k]] := by
  rw [List.take_succ_eq_append_getElem (by simpa using h)]; rfl
set_option maxRecDepth 20000 in
set_option maxHeartbeats 400000 in
theorem on_any (c : BitVec 32) (s : ByteArray) (w : World) (hs : s.size ≤ maxLen) :
    Calls Tryd.prog 42 #[vu32 c, .string s] w fun e w' => e = .returned (vu32 (con c s.data.toList)) ∧ Below w.heap.size w w' := by
  unfold maxLen at hs
  go_enter Tryd.func42, Tryd.ntmps42
  go_wp2_with (first | (go_at_call 66; refine (halves_any _).mono ?_; rintro e w1 ⟨cs, ht, rfl, hb1⟩; have hinf : (Tryd.prog.info? 95).map (·.size) = some cs.size := by (rw [ht.1]; exact info38)) | (refine wpList_store_fresh rfl 95 _ _ rfl cs rfl rfl 95 _ hinf ht.1.symm ht.one ?_; intro w2 hb2 hc2 hz2; clear hinf))
  go_loop [0, 6, 12] (fun v0 _ v12 => ∃ k : Nat, k ≤ s.size ∧ v12 = .int .i64 k ∧ v0 = vu32 (crun (~~~ c) (s.data.toList.take k))) (fun _ _ v12 => s.size - (intOf v12).toNat)
  case atStart => exact ⟨0, Nat.zero_le _, rfl, congrArg _ (w_not c)⟩
  case round =>
    obtain ⟨k, hk, rfl, rfl⟩ := hrel
    have hcells : ∀ x : BitVec 32, w2.cell? ⟨w1.heap.size, (lo4 x).toNat, none⟩ = some (vu32 (half (lo4 x))) := fun x => by
      rw [cell_of_row w2 _ _ cs _ _ hc2, ht.2 _ (lo4_lt x)]; simp
    by_cases hlt : k < s.size
    · generalize hd : crun (~~~ c) (s.data.toList.take k) = d
      have Hd := Lib.hid hd
      have h1 := lo4_lt (xb d s[k])
      have h2 := lo4_lt (xr (half (lo4 (xb d s[k]))) (hi4 (xb d s[k])))
      clear hd hc2 hz2
      go_wp2
      go_round
      case rel =>
        refine ⟨k + 1, by omega, by go_num, congrArg (fun x : BitVec 32 => vu32 x) ?_⟩
        rw [two_halves, take_snoc s k hlt, crun_snoc, Hd.out]
      case measure => simp [intOf]; omega
    · clear hcells
      obtain rfl : k = s.size := by omega
      go_wp2
      go_ret
      refine ⟨?_, hb1.trans (hb2.mono hb1.size)⟩
      rw [w_not, List.take_of_length_le (by simp)]
      rfl

set_option maxHeartbeats 400000 in
theorem of_any (s : ByteArray) (w : World) (hs : s.size ≤ maxLen) :
    Calls Tryd.prog 30 #[.string s] w fun e w' => e = .returned (vu32 (cof s.data.toList)) ∧ Below w.heap.size w w' := by
  go_enter Tryd.func30, Tryd.ntmps30
  go_wp2_with (go_at_call 42; refine (on_any 0#32 s _ hs).mono ?_; rintro e w1 ⟨rfl, hb1⟩)
  go_ret
  exact ⟨rfl, hb1⟩

theorem conv_four (w : World) (c : BitVec 32) :
    (convert 46 9 (.slice (some ⟨w.heap.size, 0, none⟩) 4 4)).run Tryd.prog (w.alloc (.cells #[.int .u8 ((c.toNat : Int) % 256), .int .u8 ((c.toNat : Int) / 256 % 256), .int .u8 ((c.toNat : Int) / 65536 % 256), .int .u8 ((c.toNat : Int) / 16777216)] 67 (0, 0))) =
      .ok (.string ⟨(cbytes c).toArray⟩) (w.alloc (.cells #[.int .u8 ((c.toNat : Int) % 256), .int .u8 ((c.toNat : Int) / 256 % 256), .int .u8 ((c.toNat : Int) / 65536 % 256), .int .u8 ((c.toNat : Int) / 16777216)] 67 (0, 0))) := by
  have hcl := c.isLt
  refine run_convert_bytes_back (P := Tryd.prog) _ 46 9 5 ⟨w.heap.size, 0, none⟩ 4 (cbytes c) Tryd.underlying46 Tryd.underlying5 Tryd.underlying9 ?_
  intro j hj
  have hj4 : j < 4 := hj
  have ha : (⟨w.heap.size, 0, none⟩ : Addr).add j = ⟨w.heap.size, j, none⟩ := by unfold Addr.add; split <;> simp_all
  rw [ha, World.cell?_alloc_mark]
  rcases (show j = 0 ∨ j = 1 ∨ j = 2 ∨ j = 3 by omega) with rfl | rfl | rfl | rfl <;> simp [cbytes]
  omega
set_option maxHeartbeats 400000 in
theorem tail_any (s : ByteArray) (w : World) (hs : s.size ≤ maxLen) :
    Calls Tryd.prog 18 #[.string s] w fun e w' => e = .returned (.string ⟨(ctail s.data.toList).toArray⟩) ∧ Below w.heap.size w w' := by
  go_enter Tryd.func18, Tryd.ntmps18
  go_wp2_with (go_at_call 30; refine (of_any s _ hs).mono ?_; rintro e w1 ⟨rfl, hb1⟩)
  have Hc : Hid (ctail s.data.toList = cbytes (cof s.data.toList)) := rfl
  generalize cof s.data.toList = c at Hc ⊢
  have hcl := c.isLt
  have hconv := conv_four w1 c
  go_rounds 5
  go_wp2
  go_ret
  exact ⟨congrArg (fun l : List UInt8 => Ending.returned (.string ⟨l.toArray⟩)) Hc.out.symm, hb1.alloc hb1.size _⟩

set_option maxHeartbeats 400000 in
theorem good_short (s : ByteArray) (w : World) (hs : s.size < 4) :
    Calls Tryd.prog 27 #[.string s] w fun e w' => e = .returned (.tuple #[.string ⟨#[]⟩, .bool false]) ∧ w = w' := by
  go_enter Tryd.func27, Tryd.ntmps27
  go_wp2
  go_ret2
  exact ⟨rfl, rfl⟩

/-- What stands ahead of the last four bytes, and these. -/
def ahead (s : ByteArray) : ByteArray := s.extract 0 (s.size - 4)
def behind (s : ByteArray) : ByteArray := s.extract (s.size - 4) s.size
theorem ahead_list (s : ByteArray) : (ahead s).data.toList = s.data.toList.take (s.size - 4) := by
  simp [ahead, ByteArray.data_extract]
theorem behind_list (s : ByteArray) : (behind s).data.toList = s.data.toList.drop (s.size - 4) := by
  simp [behind, ByteArray.data_extract]
  rw [List.take_of_length_le (by simp)]
theorem ahead_size (s : ByteArray) : (ahead s).size = s.size - 4 := by simp [ahead, ByteArray.size_extract]
/-- The check that stands behind is right. -/
def Right (l : List UInt8) : Prop := ctail (l.take (l.length - 4)) = l.drop (l.length - 4)
instance (l : List UInt8) : Decidable (Right l) := by unfold Right; infer_instance
theorem right_test (s : ByteArray) : (ctail (s.data.toList.take (s.size - 4)) == (s.extract (s.size - 4) s.size).toList) = decide (Right s.data.toList) := by
  rw [ByteArray.toList_eq, ← behind, behind_list]
  have e : s.size = s.data.toList.length := by simp
  by_cases h : Right s.data.toList
  · rw [decide_eq_true h]
    unfold Right at h
    rw [e, h]
    simp
  · rw [decide_eq_false h]
    unfold Right at h
    rw [e]
    simpa using h
set_option maxHeartbeats 400000 in
theorem good_yes (s : ByteArray) (w : World) (hs : s.size ≤ maxLen) (h4 : 4 ≤ s.size) (hr : Right s.data.toList) :
    Calls Tryd.prog 27 #[.string s] w fun e w' => e = .returned (.tuple #[.string (ahead s), .bool true]) ∧ Below w.heap.size w w' := by
  unfold maxLen at hs
  have h4' : ¬ (s.size : Int) < 4 := by omega
  have hsz : (s.extract 0 (s.size - 4)).size ≤ maxLen := by rw [← ahead, ahead_size]; unfold maxLen; omega
  have ht : (ctail (s.data.toList.take (s.size - 4)) == (s.extract (s.size - 4) s.size).toList) = true := by rw [right_test]; simpa using hr
  go_enter Tryd.func27, Tryd.ntmps27
  go_wp2
  go_quiet (fail)
  go_wp2_with (go_at_call 18; refine (tail_any _ _ hsz).mono ?_; rintro e w1 ⟨rfl, hb1⟩)
  go_ret2
  exact ⟨rfl, below_draws hb1⟩
set_option maxHeartbeats 400000 in
theorem good_no (s : ByteArray) (w : World) (hs : s.size ≤ maxLen) (h4 : 4 ≤ s.size) (hr : ¬ Right s.data.toList) :
    Calls Tryd.prog 27 #[.string s] w fun e w' => e = .returned (.tuple #[.string ⟨#[]⟩, .bool false]) ∧ Below w.heap.size w w' := by
  unfold maxLen at hs
  have h4' : ¬ (s.size : Int) < 4 := by omega
  have hsz : (s.extract 0 (s.size - 4)).size ≤ maxLen := by rw [← ahead, ahead_size]; unfold maxLen; omega
  have ht : (ctail (s.data.toList.take (s.size - 4)) == (s.extract (s.size - 4) s.size).toList) = false := by rw [right_test]; simpa using hr
  go_enter Tryd.func27, Tryd.ntmps27
  go_wp2
  go_quiet (fail)
  go_wp2_with (go_at_call 18; refine (tail_any _ _ hsz).mono ?_; rintro e w1 ⟨rfl, hb1⟩)
  go_ret2
  exact ⟨rfl, below_draws hb1⟩
end Go.Proofs.YtdidengokijcjaaDoor.CrcW
/-
  chunk.Put: THE WALK.
-/
namespace Go.Proofs.YtdidengokijcjaaDoor.ChW
set_option linter.unusedVariables false
open Go.RowKit FrM FrW StM ChM LabW BitsM BitsW
theorem sorted_eq : ∀ l : List Sm, LabW.sortedL l = ChM.sorted l
  | [] => rfl
  | [_] => rfl
  | x :: y :: l => by unfold LabW.sortedL ChM.sorted; rw [sorted_eq (y :: l)]
set_option maxRecDepth 20000 in
set_option maxHeartbeats 2000000 in
theorem put_bad1 (gen : Int) (A : Option Addr) (n c : Nat) (w : World) (hof : ofV gen = .tuple #[.agg #[.nilFunc, .nilFunc], .bool false]) :
    Calls Tryd.prog 9 #[.slice A n c, .int .i64 gen] w fun e w' => e = .returned (.tuple #[.string ⟨#[]⟩, .int .i64 1]) ∧ Below w.heap.size w w' := by
  go_enter Tryd.func9, Tryd.ntmps9
  go_wp2_with fail
  refine (of_any gen _).mono ?_
  rintro e w1 ⟨rfl, hb1⟩
  rw [hof]
  have hz := hb1.size
  have HB := Lib.hid hb1
  clear hb1
  go_wp2_with fail
  exact bodyPost_ret (v := .tuple #[.string ⟨#[]⟩, .int .i64 1]) (by simp [results, Tryd.results9, go_sem]) rfl ⟨rfl, HB.out.alloc hz _⟩
set_option maxRecDepth 20000 in
set_option maxHeartbeats 2000000 in
theorem put_bad2 (gen : Int) (k k2 : Nat) (A : Option Addr) (n c : Nat) (l : List Sm) (w : World) (hl : Comes w 2 encS okS A n c l) (hof : ofV gen = .tuple #[.agg #[.func (Fn.func k) #[] #[], .func (Fn.func k2) #[] #[]], .bool true]) (hs : LabW.sortedL l = false) :
    Calls Tryd.prog 9 #[.slice A n c, .int .i64 gen] w fun e w' => e = .returned (.tuple #[.string ⟨#[]⟩, .int .i64 1]) ∧ Below w.heap.size w w' := by
  have HL := Lib.hid hl
  clear hl
  go_enter Tryd.func9, Tryd.ntmps9
  go_wp2_with fail
  refine (of_any gen _).mono ?_
  rintro e w1 ⟨rfl, hb1⟩
  rw [hof]
  have hz := hb1.size
  have HB := Lib.hid hb1
  clear hb1
  go_wp2_with fail
  refine (sorted_any A n c l _ (HL.out.later (HB.out.alloc hz _))).mono ?_
  rintro e w2 ⟨rfl, hb2⟩
  rw [hs]
  replace HB := Lib.hid (later (HB.out.alloc hz _) hb2)
  clear hb2
  go_wp2_with fail
  exact bodyPost_ret (v := .tuple #[.string ⟨#[]⟩, .int .i64 1]) (by simp [results, Tryd.results9, go_sem]) rfl ⟨rfl, HB.out⟩
set_option maxRecDepth 20000 in
set_option maxHeartbeats 2000000 in
theorem put_bad3 (gen : Int) (k k2 : Nat) (A : Option Addr) (n c : Nat) (l : List Sm) (w : World) (hl : Comes w 2 encS okS A n c l) (hof : ofV gen = .tuple #[.agg #[.func (Fn.func k) #[] #[], .func (Fn.func k2) #[] #[]], .bool true]) (hs : LabW.sortedL l = true) (hn : 200 < n) :
    Calls Tryd.prog 9 #[.slice A n c, .int .i64 gen] w fun e w' => e = .returned (.tuple #[.string ⟨#[]⟩, .int .i64 1]) ∧ Below w.heap.size w w' := by
  have HL := Lib.hid hl
  clear hl
  go_enter Tryd.func9, Tryd.ntmps9
  go_wp2_with fail
  refine (of_any gen _).mono ?_
  rintro e w1 ⟨rfl, hb1⟩
  rw [hof]
  have hz := hb1.size
  have HB := Lib.hid hb1
  clear hb1
  go_wp2_with fail
  refine (sorted_any A n c l _ (HL.out.later (HB.out.alloc hz _))).mono ?_
  rintro e w2 ⟨rfl, hb2⟩
  rw [hs]
  replace HB := Lib.hid (later (HB.out.alloc hz _) hb2)
  clear hb2
  go_wp2_with fail
  exact bodyPost_ret (v := .tuple #[.string ⟨#[]⟩, .int .i64 1]) (by simp [results, Tryd.results9, go_sem]) rfl ⟨rfl, HB.out⟩
set_option maxRecDepth 20000 in
set_option maxHeartbeats 2000000 in
theorem put_good (gen : Int) (k k2 : Nat) (F : Txt) (A : Option Addr) (n c : Nat) (l : List Sm) (w : World) (hl : Comes w 2 encS okS A n c l) (hT : Tab w) (hof : ofV gen = .tuple #[.agg #[.func (Fn.func k) #[] #[], .func (Fn.func k2) #[] #[]], .bool true]) (hs : LabW.sortedL l = true) (hn : n ≤ 200) (hk : ∀ (xs : Array Value) (W : World), (callFunc k xs).run Tryd.prog W = .ok (.enter k xs) W) (hF : F.length ≤ 100000)
    (K : ∀ (w0 w : World) (b : Nat), Comes w0 2 encS okS A n c l → Below w0.heap.size w0 w → Bd w0.heap.size b [] w → Tab w0 → Calls Tryd.prog k #[.pointer (some ⟨b, 0, none⟩), .slice A n c] w fun e w' => e = .returned (.tuple #[]) ∧ Bd w0.heap.size b F w' ∧ Below w0.heap.size w0 w') :
    Calls Tryd.prog 9 #[.slice A n c, .int .i64 gen] w fun e w' => e = .returned (.tuple #[.string (bs (F ++ CrcM.ctail F)), .int .i64 0]) ∧ Below w.heap.size w w' := by
  have HL := Lib.hid hl
  have HT := Lib.hid hT
  have HK := Lib.hid K
  clear hl hT K
  go_enter Tryd.func9, Tryd.ntmps9
  go_wp2_with fail
  refine (of_any gen _).mono ?_
  rintro e w1 ⟨rfl, hb1⟩
  rw [hof]
  have hz := hb1.size
  have HB := Lib.hid hb1
  clear hb1
  go_wp2_with fail
  refine (sorted_any A n c l _ (HL.out.later (HB.out.alloc hz _))).mono ?_
  rintro e w2 ⟨rfl, hb2⟩
  rw [hs]
  have hz2 := hb2.size
  have h5 : w2.heap[w1.heap.size]? = some (.cells #[.func (Fn.func k) #[] #[], .func (Fn.func k2) #[] #[]] 42 (0, 0)) := (hb2.block w1.heap.size (by simp)).trans (heap_alloc_new w1 _)
  have h6 : (w2.alloc (.cells #[.pointer none, .slice none 0 0] 48 (0, 0))).cell? ⟨w1.heap.size, 0, none⟩ = some (.func (Fn.func k) #[] #[]) := by
    rw [cell_of_row _ _ _ _ _ _ ((Below.heap_alloc w2 _ _ (Array.getElem?_eq_some_iff.1 h5).1).trans h5)]; rfl
  replace HB := Lib.hid (later (HB.out.alloc hz _) hb2)
  have HBd := Lib.hid (Bd.fresh w2)
  clear hb2 h5 hz2
  go_wp2_with fail
  refine (HK.out w2 _ _ (HL.out.later HB.out) ((Below.refl _ _).alloc (Nat.le_refl _) _) HBd.out (HT.out.later HB.out)).mono ?_
  rintro e w3 ⟨rfl, hbd3, hb3⟩
  have H3 := Lib.hid (And.intro hbd3 hb3)
  have hz3 := hb3.size
  clear hbd3 hb3 h6
  go_wp2_with fail
  refine (bstring_any w2.heap.size w2.heap.size F w3 H3.out.1 hz3).mono ?_
  rintro e w4 ⟨rfl, hb4⟩
  have H4 := Lib.hid (H3.out.2.trans hb4)
  clear hb4
  have hzF := bs_size F
  have hzT : (CrcM.ctail F).length = 4 := CrcM.ctail_length F
  go_wp2_with fail
  have hdF : (⟨(CrcM.ctail (bs F).data.toList).toArray⟩ : ByteArray) = bs (CrcM.ctail F) := by show bs (CrcM.ctail (bs F).data.toList) = _; rw [show (bs F).data.toList = F by simp [bs]]
  refine (CrcW.tail_any (bs F) _ (by unfold maxLen; omega)).mono ?_
  rintro e w5 ⟨rfl, hb5⟩
  rw [hdF]
  have ha : ∀ W : World, (Op.stringOp .add (bs F) (bs (CrcM.ctail F))).run Tryd.prog W = .ok (.string (bs (F ++ CrcM.ctail F))) W := fun W => by rw [← bs_append]; exact run_string_add_sum W _ _ (by rw [bs_size, bs_size]; omega)
  have H5 := Lib.hid (later H4.out hb5)
  clear hb5 hdF
  go_wp2_with fail
  exact bodyPost_ret (v := .tuple #[.string (bs (F ++ CrcM.ctail F)), .int .i64 0]) (by simp [results, Tryd.results9, go_sem]) rfl ⟨rfl, HB.out.trans (H5.out.mono HB.out.size)⟩
/-- A call of a function that has a body: it is entered. -/
theorem enters {P : Program} {f : FuncId} {fn : Func} (hf : P.funcs[f]? = some fn) (hname : (fn.name == "runtime.NumGoroutine") = false) (hb : fn.body.isSome = true) (args : Array Value) (w : World) : (callFunc f args).run P w = .ok (.enter f args) w := by
  have h1 : fn.name ≠ "runtime.NumGoroutine" := by simpa using hname
  obtain ⟨c, hc⟩ := Option.isSome_iff_exists.1 hb
  simp [callFunc, hf, h1, hc]
theorem wS_le {l : List Sm} (h : l.length ≤ 200) : (body 1 l).length ≤ 100000 := by
  show (wide l.length ++ wS l).length ≤ _
  rw [List.length_append, wide_len, wS_len]; omega
theorem sS_le {l : List Sm} (h : l.length ≤ 200) : (body 2 l).length ≤ 100000 := by
  have := sS_len l 0
  have := sm_len 9 l.length
  show (small l.length ++ sS 0 l).length ≤ _
  unfold small; rw [List.length_append]; omega
theorem bB_le {l : List Sm} (h : l.length ≤ 200) : (body 3 l).length ≤ 100000 := by
  have hb1 := bitsAll_len StW.s0 (times l)
  have hb2 := VaM.bitsV_len VaM.v0 (vals l)
  rw [times_len] at hb1
  rw [vals_len] at hb2
  have ht1 : (tB l).length ≤ 8501 := by unfold tB; have := pack_le (bitsAll StW.s0 (times l)); omega
  have ht2 : (vB l).length ≤ 9751 := by unfold vB; have := pack_le (VaM.bitsV VaM.v0 (vals l)); omega
  have hs1 : (small l.length).length ≤ 10 := sm_len 9 l.length
  have hs2 := text_len (tB l)
  have hs3 := text_len (vB l)
  have hs4 : (small (tB l).length).length ≤ 10 := sm_len 9 _
  have hs5 : (small (vB l).length).length ≤ 10 := sm_len 9 _
  show (small l.length ++ (text (tB l) ++ text (vB l))).length ≤ _
  rw [List.length_append, List.length_append]; omega
theorem putC_bad {g : Int} {l : List Sm} (h : may g l = false) : putC g l = ([], 1) := by unfold putC; rw [h]; rfl
theorem putC_good {g : Int} {l : List Sm} (h : may g l = true) : putC g l = (body g l ++ CrcM.ctail (body g l), 0) := by unfold putC; rw [h]; rfl
/-- chunk.Put: the bytes that samples are. -/
theorem put_any (gen : Int) (A : Option Addr) (n c : Nat) (l : List Sm) (w : World) (hl : Comes w 2 encS okS A n c l) (hT : Tab w) :
    Calls Tryd.prog 9 #[.slice A n c, .int .i64 gen] w fun e w' => e = .returned (.tuple #[.string (bs (putC gen l).1), .int .i64 (putC gen l).2]) ∧ Below w.heap.size w w' := by
  have hln := hl.len
  by_cases hg : 1 ≤ gen ∧ gen ≤ 3
  · by_cases hs : LabW.sortedL l = true
    · by_cases hn : n ≤ 200
      · have hm : may gen l = true := by unfold may; rw [← sorted_eq, hs]; simp; omega
        rw [putC_good hm]
        rcases (by omega : gen = 1 ∨ gen = 2 ∨ gen = 3) with rfl | rfl | rfl
        · exact put_good 1 36 37 (body 1 l) A n c l w hl hT rfl hs hn (enters Tryd.func36 (by kernel_rfl) (by kernel_rfl)) (wS_le (by omega)) (fun w0 w b h1 h2 h3 _ => putWide_any w0 w b A n c l h1 (by omega) h2 h3)
        · exact put_good 2 38 39 (body 2 l) A n c l w hl hT rfl hs hn (enters Tryd.func38 (by kernel_rfl) (by kernel_rfl)) (sS_le (by omega)) (fun w0 w b h1 h2 h3 _ => putSmall_any w0 w b A n c l h1 (by omega) h2 h3)
        · exact put_good 3 40 41 (body 3 l) A n c l w hl hT rfl hs hn (enters Tryd.func40 (by kernel_rfl) (by kernel_rfl)) (bB_le (by omega)) (fun w0 w b h1 h2 h3 h4 => putBits_any w0 w b A n c l h1 (by omega) h2 h3 h4)
      · have hm : may gen l = false := by unfold may; rw [decide_eq_false (by omega : ¬ l.length ≤ 200), Bool.and_false]
        rw [putC_bad hm]
        rcases (by omega : gen = 1 ∨ gen = 2 ∨ gen = 3) with rfl | rfl | rfl
        · exact put_bad3 1 _ _ A n c l w hl rfl hs (by omega)
        · exact put_bad3 2 _ _ A n c l w hl rfl hs (by omega)
        · exact put_bad3 3 _ _ A n c l w hl rfl hs (by omega)
    · have hs := Bool.eq_false_iff.2 hs
      have hm : may gen l = false := by unfold may; rw [← sorted_eq, hs, Bool.and_false, Bool.false_and]
      rw [putC_bad hm]
      rcases (by omega : gen = 1 ∨ gen = 2 ∨ gen = 3) with rfl | rfl | rfl
      · exact put_bad2 1 _ _ A n c l w hl rfl hs
      · exact put_bad2 2 _ _ A n c l w hl rfl hs
      · exact put_bad2 3 _ _ A n c l w hl rfl hs
  · have hm : may gen l = false := by
      unfold may
      rcases (by omega : ¬ 1 ≤ gen ∨ ¬ gen ≤ 3) with h | h
      · rw [decide_eq_false h]; rfl
      · rw [decide_eq_false h, Bool.and_false]; rfl
    rw [putC_bad hm]
    exact put_bad1 gen A n c w (by unfold ofV; rw [if_neg hg])
end Go.Proofs.YtdidengokijcjaaDoor.ChW
