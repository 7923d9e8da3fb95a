/-
  THE WALKS OF THE CHECK (package crc).
  alluviumref04.Put, at; alluviumlaw04.of: THE WALKS.
  alluviumref04.Get: THE WALK.
  alluviumref04.Get, behind the first time: THE WALK. (Printed by wip/gen/strefh.py.)
-/
import Derived.Test.YtdidengokijcjaaDoorRows
import Derived.Test.YtdidengokijcjaaDoorJ01
import Derived.Test.YtdidengokijcjaaDoorJ06
import Derived.Handy
import Derived.Deep.QuietTactic
import Derived.BigQuiet
import Derived.Test.YtdidengokijcjaaDoorJ13
import Derived.RegionTactic
import Derived.ChangeAlike
import Derived.BigRegion
/-
  THE WALKS OF THE CHECK (package crc).
-/
namespace Go.Proofs.YtdidengokijcjaaDoor.CrcW
open Go.RowKit CrcM

/-- A number of 32 bits as a value. -/
abbrev vu32 (x : BitVec 32) : Value := .int .u32 (x.toNat : Int)
theorem shr1 (c : BitVec 32) : ((c >>> 1).toNat : Int) = (c.toNat : Int) / 2 := by
  simp [Nat.shiftRight_eq_div_pow]
theorem shr4 (c : BitVec 32) : ((c >>> 4).toNat : Int) = (c.toNat : Int) / 16 := by
  simp [Nat.shiftRight_eq_div_pow]
theorem xor_u32 (a b : BitVec 32) : bits .xor .u32 (a.toNat : Int) (b.toNat : Int) = ((a ^^^ b).toNat : Int) := by
  rw [u32_xor_nat _ _ a.isLt b.isLt, BitVec.toNat_xor]
theorem and1 (c : BitVec 32) : bits .and .u32 (c.toNat : Int) 1 = if c.getLsbD 0 then 1 else 0 := by
  have h := u32_and_nat c.toNat 1 c.isLt (by decide)
  rw [show ((1 : Nat) : Int) = 1 from rfl] at h
  rw [h, nat_mask1, BitVec.getLsbD, Nat.testBit_zero]
  have := Nat.mod_two_eq_zero_or_one c.toNat
  rcases this with h | h <;> simp [h]
theorem round_odd (c : BitVec 32) (h : (bits .and .u32 (c.toNat : Int) 1 != 0) = true) : bits .xor .u32 ((c.toNat : Int) / 2) 2197175160 = ((tstep c).toNat : Int) := by
  rw [and1] at h
  have h0 : c.getLsbD 0 = true := by
    split at h
    · assumption
    · simp at h
  have e : (2197175160 : Int) = ((poly.toNat : Nat) : Int) := rfl
  rw [e, ← shr1, xor_u32]
  unfold tstep
  rw [if_pos h0]
theorem round_even (c : BitVec 32) (h : (bits .and .u32 (c.toNat : Int) 1 != 0) = false) : (c.toNat : Int) / 2 = ((tstep c).toNat : Int) := by
  rw [and1] at h
  have h0 : c.getLsbD 0 = false := by
    split at h
    · simp at h
    · exact Bool.eq_false_iff.2 (by assumption)
  rw [← shr1]
  unfold tstep
  rw [h0]; rfl
/-- The table of halves, as a row of cells: the first k of them are there. -/
def Tab (k : Nat) (cs : Array Value) : Prop := cs.size = 16 ∧ ∀ i, i < k → cs[i]? = some (vu32 (half (BitVec.ofNat 32 i)))
theorem Tab.set {k : Nat} {cs : Array Value} (h : Tab k cs) (hk : k < 16) {v : Value} (hv : v = vu32 (half (BitVec.ofNat 32 k))) : Tab (k + 1) (cs.setIfInBounds k v) := by
  refine ⟨by simp [h.1], fun i hi => ?_⟩
  by_cases e : i = k
  · subst e; rw [Array.getElem?_setIfInBounds_self_of_lt (by rw [h.1]; omega), hv]
  · rw [Array.getElem?_setIfInBounds_ne (by omega)]; exact h.2 i (by omega)
theorem Tab.one {cs : Array Value} (h : Tab 16 cs) : cs.all (·.oneCell') = true := by
  rw [Array.all_eq_true]
  intro i hi
  have := h.2 i (by have := h.1; omega)
  rw [Array.getElem?_eq_getElem hi] at this
  rw [Option.some.inj this]; rfl
theorem info38 : (Tryd.prog.info? 95).map (·.size) = some 16 := by kernel_rfl
set_option maxHeartbeats 400000 in
theorem halves_any (w : World) :
    Calls Tryd.prog 66 #[] w fun e w' => ∃ cs, Tab 16 cs ∧ e = .returned (.agg cs) ∧ Below w.heap.size w w' := by
  go_enter Tryd.func66, Tryd.ntmps66
  go_wp2
  go_loopw [2, 3, 4, 5] (fun _ _ _ v5 wr => ∃ (k : Nat) (cs0 cs : Array Value), k ≤ 16 ∧ v5 = .int .i64 k ∧ Below w.heap.size w wr ∧ wr.heap[w.heap.size]? = some (.cells cs0 95 (0, 0)) ∧ cs0.size = 16 ∧ wr.heap[w.heap.size + 1]? = some (.cells cs 95 (0, 0)) ∧ Tab k cs)
    (fun _ _ _ v5 _ => 16 - (intOf v5).toNat)
  case atStart =>
    refine ⟨0, _, _, by omega, rfl, ((Below.refl _ _).alloc (Nat.le_refl _) _).alloc (by simp) _, heap_alloc2_old _ _ _, rfl, heap_alloc2_new _ _ _, rfl, fun i hi => by omega⟩
  case round =>
    obtain ⟨k, cs0, cs, hk, rfl, hb, hc0, hs0, hc, ht⟩ := hrel
    have hcell : k < 16 → wr.cell? ⟨w.heap.size + 1, k, none⟩ = some cs[k]! := fun h => by
      rw [cell_of_row wr _ k cs _ _ hc]; have := ht.1; simp [h, this]
    have hfro : wr.frozen? ⟨w.heap.size + 1, k, none⟩ = false := frozen_of_row wr _ k cs _ hc
    by_cases hlt : k < 16
    · have hcell' := hcell hlt
      clear hcell
      go_wp2
      go_loop [3, 4, 10] (fun v3 _ v10 => ∃ j : Nat, j ≤ 4 ∧ v10 = .int .i64 j ∧ v3 = vu32 (tsteps j (BitVec.ofNat 32 k)))  (fun _ _ v10 => 4 - (intOf v10).toNat)
      case atStart =>
        refine ⟨0, by omega, rfl, ?_⟩
        simp [tsteps]; omega
      case round =>
        obtain ⟨j, hj, rfl, rfl⟩ := hrel
        by_cases hlj : j < 4
        · go_wp2
          all_goals
            go_round
            case rel => exact ⟨j + 1, by omega, by go_num, by first | exact congrArg _ (round_odd _ (by assumption)) | exact congrArg _ (round_even _ (by assumption))⟩
            case measure => simp [intOf]; omega
        · obtain rfl : j = 4 := by omega
          go_wp2
          go_roundw
          case rel =>
            refine ⟨k + 1, cs0, _, by omega, by go_num, hb.setCell (by simp) _, ?_, hs0, heap_setCell_same wr _ k cs _ _ hc, ht.set hlt rfl⟩
            rw [heap_setCell_other _ _ _ _ (by simp)]; exact hc0
          case measure => simp [intOf]; omega
    · obtain rfl : k = 16 := by omega
      clear hfro hcell
      have hload : (Tryd.prog.info? 95).map (·.size) = some cs.size := by rw [ht.1]; exact info38
      have hone : cs.all (·.oneCell') = true := ht.one
      have hb' : Below w.heap.size w (wr.setRow w.heap.size cs) := below_setRow hb (Nat.le_refl _) _
      have hres : (wr.setRow w.heap.size cs).heap[w.heap.size]? = some (.cells cs 95 (0, 0)) := setRow_heap wr _ _ cs _ _ hc0
      go_wp2_with (first | (refine wpList_load_row rfl 95 _ rfl (w.heap.size + 1) rfl 95 cs (0, 0) _ hc Tryd.underlying95 rfl hload ?_) | (refine wpList_store_row rfl 95 _ _ rfl w.heap.size cs rfl rfl 95 cs0 hc0 hload (hs0.trans ht.1.symm) hone ?_))
      exact bodyPost_ret (v := .agg cs) (results_cell_row (Tryd.results66) _ _ w.heap.size 95 cs (0, 0) _ rfl hres Tryd.underlying95 rfl hload) rfl ⟨cs, ht, rfl, hb'⟩

/-! What stands in the walk's frame is kept behind names of its own, which simp does not open. -/
def xr (a b : BitVec 32) : BitVec 32 := a ^^^ b
def xb (a : BitVec 32) (x : UInt8) : BitVec 32 := a ^^^ BitVec.ofNat 32 x.toNat
def lo4 (c : BitVec 32) : BitVec 32 := c &&& 15#32
def hi4 (c : BitVec 32) : BitVec 32 := c >>> 4
def nt (c : BitVec 32) : BitVec 32 := ~~~ c
theorem w_xor (a b : BitVec 32) : bits .xor .u32 (a.toNat : Int) (b.toNat : Int) = ((xr a b).toNat : Int) := xor_u32 a b
theorem w_byte (a : BitVec 32) (x : UInt8) : bits .xor .u32 (a.toNat : Int) (x.toNat : Int) = ((xb a x).toNat : Int) := by
  unfold xb
  rw [← xor_u32]; congr 2; have := x.toNat_lt; simp
theorem w_hi (c : BitVec 32) : (c.toNat : Int) / 16 = ((hi4 c).toNat : Int) := (shr4 c).symm
theorem w_lo (c : BitVec 32) : bits .and .u32 (c.toNat : Int) 15 = ((lo4 c).toNat : Int) := by
  have h := u32_and_nat c.toNat 15 c.isLt (by decide)
  rw [show ((15 : Nat) : Int) = 15 from rfl] at h
  rw [h]; simp [lo4]
theorem lo4_lt (c : BitVec 32) : (lo4 c).toNat < 16 := by
  unfold lo4
  rw [BitVec.toNat_and]; exact Nat.lt_of_le_of_lt Nat.and_le_right (by decide)
theorem u32_max : IntKind.u32.max = ((BitVec.allOnes 32).toNat : Int) := by decide
theorem w_not (c : BitVec 32) : bits .xor .u32 IntKind.u32.max (c.toNat : Int) = ((nt c).toNat : Int) := by
  rw [u32_max, xor_u32]
  rw [BitVec.allOnes_xor]; rfl
theorem w_mod (x : UInt8) : (x.toNat : Int) % 4294967296 = (x.toNat : Int) := by have := x.toNat_lt; omega
attribute [local go_sem] w_mod w_xor w_byte w_hi w_lo
/-- One byte, by two halves. -/
theorem two_halves (c : BitVec 32) (x : UInt8) :
    xr (half (lo4 (xr (half (lo4 (xb c x))) (hi4 (xb c x))))) (hi4 (xr (half (lo4 (xb c x))) (hi4 (xb c x)))) = byteStep c x := by
  have e1 : ∀ d : BitVec 32, xr (half (lo4 d)) (hi4 d) = tsteps 4 d := fun d => (nibble d).symm
  rw [e1, e1, ← tsteps_add]; rfl
theorem take_snoc (s : ByteArray) (k : Nat) (h : k < s.size) : s.data.toList.take (k + 1) = s.data.toList.take k ++ [s[k]] := by
  rw [List.take_succ_eq_append_getElem (by simpa using h)]; rfl
set_option maxRecDepth 20000 in
set_option maxHeartbeats 400000 in
theorem on_any (c : BitVec 32) (s : ByteArray) (w : World) (hs : s.size ≤ maxLen) :
    Calls Tryd.prog 42 #[vu32 c, .string s] w fun e w' => e = .returned (vu32 (con c s.data.toList)) ∧ Below w.heap.size w w' := by
  unfold maxLen at hs
  go_enter Tryd.func42, Tryd.ntmps42
  go_wp2_with (first | (go_at_call 66; refine (halves_any _).mono ?_; rintro e w1 ⟨cs, ht, rfl, hb1⟩; have hinf : (Tryd.prog.info? 95).map (·.size) = some cs.size := by (rw [ht.1]; exact info38)) | (refine wpList_store_fresh rfl 95 _ _ rfl cs rfl rfl 95 _ hinf ht.1.symm ht.one ?_; intro w2 hb2 hc2 hz2; clear hinf))
  go_loop [0, 6, 12] (fun v0 _ v12 => ∃ k : Nat, k ≤ s.size ∧ v12 = .int .i64 k ∧ v0 = vu32 (crun (~~~ c) (s.data.toList.take k))) (fun _ _ v12 => s.size - (intOf v12).toNat)
  case atStart => exact ⟨0, Nat.zero_le _, rfl, congrArg _ (w_not c)⟩
  case round =>
    obtain ⟨k, hk, rfl, rfl⟩ := hrel
    have hcells : ∀ x : BitVec 32, w2.cell? ⟨w1.heap.size, (lo4 x).toNat, none⟩ = some (vu32 (half (lo4 x))) := fun x => by
      rw [cell_of_row w2 _ _ cs _ _ hc2, ht.2 _ (lo4_lt x)]; simp
    by_cases hlt : k < s.size
    · generalize hd : crun (~~~ c) (s.data.toList.take k) = d
      have Hd := Lib.hid hd
      have h1 := lo4_lt (xb d s[k])
      have h2 := lo4_lt (xr (half (lo4 (xb d s[k]))) (hi4 (xb d s[k])))
      clear hd hc2 hz2
      go_wp2
      go_round
      case rel =>
        refine ⟨k + 1, by omega, by go_num, congrArg (fun x : BitVec 32 => vu32 x) ?_⟩
        rw [two_halves, take_snoc s k hlt, crun_snoc, Hd.out]
      case measure => simp [intOf]; omega
    · clear hcells
      obtain rfl : k = s.size := by omega
      go_wp2
      go_ret
      refine ⟨?_, hb1.trans (hb2.mono hb1.size)⟩
      rw [w_not, List.take_of_length_le (by simp)]
      rfl

set_option maxHeartbeats 400000 in
theorem of_any (s : ByteArray) (w : World) (hs : s.size ≤ maxLen) :
    Calls Tryd.prog 30 #[.string s] w fun e w' => e = .returned (vu32 (cof s.data.toList)) ∧ Below w.heap.size w w' := by
  go_enter Tryd.func30, Tryd.ntmps30
  go_wp2_with (go_at_call 42; refine (on_any 0#32 s _ hs).mono ?_; rintro e w1 ⟨rfl, hb1⟩)
  go_ret
  exact ⟨rfl, hb1⟩

theorem conv_four (w : World) (c : BitVec 32) :
    (convert 46 9 (.slice (some ⟨w.heap.size, 0, none⟩) 4 4)).run Tryd.prog (w.alloc (.cells #[.int .u8 ((c.toNat : Int) % 256), .int .u8 ((c.toNat : Int) / 256 % 256), .int .u8 ((c.toNat : Int) / 65536 % 256), .int .u8 ((c.toNat : Int) / 16777216)] 67 (0, 0))) =
      .ok (.string ⟨(cbytes c).toArray⟩) (w.alloc (.cells #[.int .u8 ((c.toNat : Int) % 256), .int .u8 ((c.toNat : Int) / 256 % 256), .int .u8 ((c.toNat : Int) / 65536 % 256), .int .u8 ((c.toNat : Int) / 16777216)] 67 (0, 0))) := by
  have hcl := c.isLt
  refine run_convert_bytes_back (P := Tryd.prog) _ 46 9 5 ⟨w.heap.size, 0, none⟩ 4 (cbytes c) Tryd.underlying46 Tryd.underlying5 Tryd.underlying9 ?_
  intro j hj
  have hj4 : j < 4 := hj
  have ha : (⟨w.heap.size, 0, none⟩ : Addr).add j = ⟨w.heap.size, j, none⟩ := by unfold Addr.add; split <;> simp_all
  rw [ha, World.cell?_alloc_mark]
  rcases (show j = 0 ∨ j = 1 ∨ j = 2 ∨ j = 3 by omega) with rfl | rfl | rfl | rfl <;> simp [cbytes]
  omega
set_option maxHeartbeats 400000 in
theorem tail_any (s : ByteArray) (w : World) (hs : s.size ≤ maxLen) :
    Calls Tryd.prog 18 #[.string s] w fun e w' => e = .returned (.string ⟨(ctail s.data.toList).toArray⟩) ∧ Below w.heap.size w w' := by
  go_enter Tryd.func18, Tryd.ntmps18
  go_wp2_with (go_at_call 30; refine (of_any s _ hs).mono ?_; rintro e w1 ⟨rfl, hb1⟩)
  have Hc : Hid (ctail s.data.toList = cbytes (cof s.data.toList)) := rfl
  generalize cof s.data.toList = c at Hc ⊢
  have hcl := c.isLt
  have hconv := conv_four w1 c
  go_rounds 5
  go_wp2
  go_ret
  exact ⟨congrArg (fun l : List UInt8 => Ending.returned (.string ⟨l.toArray⟩)) Hc.out.symm, hb1.alloc hb1.size _⟩

set_option maxHeartbeats 400000 in
theorem good_short (s : ByteArray) (w : World) (hs : s.size < 4) :
    Calls Tryd.prog 27 #[.string s] w fun e w' => e = .returned (.tuple #[.string ⟨#[]⟩, .bool false]) ∧ w = w' := by
  go_enter Tryd.func27, Tryd.ntmps27
  go_wp2
  go_ret2
  exact ⟨rfl, rfl⟩

/-- What stands ahead of the last four bytes, and these. -/
def ahead (s : ByteArray) : ByteArray := s.extract 0 (s.size - 4)
def behind (s : ByteArray) : ByteArray := s.extract (s.size - 4) s.size
theorem ahead_list (s : ByteArray) : (ahead s).data.toList = s.data.toList.take (s.size - 4) := by
  simp [ahead, ByteArray.data_extract]
theorem behind_list (s : ByteArray) : (behind s).data.toList = s.data.toList.drop (s.size - 4) := by
  simp [behind, ByteArray.data_extract]
  rw [List.take_of_length_le (by simp)]
theorem ahead_size (s : ByteArray) : (ahead s).size = s.size - 4 := by simp [ahead, ByteArray.size_extract]
/-- The check that stands behind is right. -/
def Right (l : List UInt8) : Prop := ctail (l.take (l.length - 4)) = l.drop (l.length - 4)
instance (l : List UInt8) : Decidable (Right l) := by unfold Right; infer_instance
theorem right_test (s : ByteArray) : (ctail (s.data.toList.take (s.size - 4)) == (s.extract (s.size - 4) s.size).toList) = decide (Right s.data.toList) := by
  rw [ByteArray.toList_eq, ← behind, behind_list]
  have e : s.size = s.data.toList.length := by simp
  by_cases h : Right s.data.toList
  · rw [decide_eq_true h]
    unfold Right at h
    rw [e, h]
    simp
  · rw [decide_eq_false h]
    unfold Right at h
    rw [e]
    simpa using h
set_option maxHeartbeats 400000 in
theorem good_yes (s : ByteArray) (w : World) (hs : s.size ≤ maxLen) (h4 : 4 ≤ s.size) (hr : Right s.data.toList) :
    Calls Tryd.prog 27 #[.string s] w fun e w' => e = .returned (.tuple #[.string (ahead s), .bool true]) ∧ Below w.heap.size w w' := by
  unfold maxLen at hs
  have h4' : ¬ (s.size : Int) < 4 := by omega
  have hsz : (s.extract 0 (s.size - 4)).size ≤ maxLen := by rw [← ahead, ahead_size]; unfold maxLen; omega
  have ht : (ctail (s.data.toList.take (s.size - 4)) == (s.extract (s.size - 4) s.size).toList) = true := by rw [right_test]; simpa using hr
  go_enter Tryd.func27, Tryd.ntmps27
  go_wp2
  go_quiet (fail)
  go_wp2_with (go_at_call 18; refine (tail_any _ _ hsz).mono ?_; rintro e w1 ⟨rfl, hb1⟩)
  go_ret2
  exact ⟨rfl, below_draws hb1⟩
set_option maxHeartbeats 400000 in
theorem good_no (s : ByteArray) (w : World) (hs : s.size ≤ maxLen) (h4 : 4 ≤ s.size) (hr : ¬ Right s.data.toList) :
    Calls Tryd.prog 27 #[.string s] w fun e w' => e = .returned (.tuple #[.string ⟨#[]⟩, .bool false]) ∧ Below w.heap.size w w' := by
  unfold maxLen at hs
  have h4' : ¬ (s.size : Int) < 4 := by omega
  have hsz : (s.extract 0 (s.size - 4)).size ≤ maxLen := by rw [← ahead, ahead_size]; unfold maxLen; omega
  have ht : (ctail (s.data.toList.take (s.size - 4)) == (s.extract (s.size - 4) s.size).toList) = false := by rw [right_test]; simpa using hr
  go_enter Tryd.func27, Tryd.ntmps27
  go_wp2
  go_quiet (fail)
  go_wp2_with (go_at_call 18; refine (tail_any _ _ hsz).mono ?_; rintro e w1 ⟨rfl, hb1⟩)
  go_ret2
  exact ⟨rfl, below_draws hb1⟩
end Go.Proofs.YtdidengokijcjaaDoor.CrcW
/-
  alluviumref04.Put, at; alluviumlaw04.of: THE WALKS.
-/
namespace Go.Proofs.YtdidengokijcjaaDoor.StW
open Go.RowKit Go.Shelf BitsM BitsW StM
def RtObj (s : St) : Obj := .cells #[.int .i64 s.1, .int .i64 s.2.1, .int .i64 s.2.2] 76 (0, 0)
theorem info_rt : (Tryd.prog.info? 76).map (·.size) = some 3 := by kernel_rfl
def RtAt (W : World) (g : Nat) (s : St) : Prop := W.heap[g]? = some (RtObj s)
theorem RtAt.c0 {W : World} {g : Nat} {s : St} (h : RtAt W g s) : W.cell? ⟨g, 0, none⟩ = some (.int .i64 s.1) := by rw [cell_of_row W _ _ _ _ _ h]; rfl
theorem RtAt.c1 {W : World} {g : Nat} {s : St} (h : RtAt W g s) : W.cell? ⟨g, 1, none⟩ = some (.int .i64 s.2.1) := by rw [cell_of_row W _ _ _ _ _ h]; rfl
theorem RtAt.c2 {W : World} {g : Nat} {s : St} (h : RtAt W g s) : W.cell? ⟨g, 2, none⟩ = some (.int .i64 s.2.2) := by rw [cell_of_row W _ _ _ _ _ h]; rfl
theorem RtAt.later {W W' : World} {g : Nat} {s : St} (h : RtAt W g s) (hb : Below W.heap.size W W') : RtAt W' g s := (hb.block _ (Array.getElem?_eq_some_iff.1 h).1).trans h
theorem bstr_z : (⟨#[48]⟩ : ByteArray) = bstr [false] := rfl
theorem bstr_oz : (⟨#[49, 48]⟩ : ByteArray) = bstr [true, false] := rfl
theorem bstr_ooz : (⟨#[49, 49, 48]⟩ : ByteArray) = bstr [true, true, false] := rfl
theorem bstr_oooz : (⟨#[49, 49, 49, 48]⟩ : ByteArray) = bstr [true, true, true, false] := rfl
theorem bstr_oooo : (⟨#[49, 49, 49, 49]⟩ : ByteArray) = bstr [true, true, true, true] := rfl
theorem u64_wrap64 (x : Int) : u64 (wrap64 x) = u64 x := by unfold u64 wrap64; omega
set_option maxRecDepth 20000 in
set_option maxHeartbeats 2000000 in
theorem rput_first (s : St) (t : Int) (w : World) (h0 : s.1 = 0) :
    Calls Tryd.prog 44 #[.agg #[.int .i64 s.1, .int .i64 s.2.1, .int .i64 s.2.2], .int .i64 t] w fun e w' => e = .returned (.tuple #[.string (bstr (putS s t)), .agg #[.int .i64 (aftS s t).1, .int .i64 (aftS s t).2.1, .int .i64 (aftS s t).2.2]]) ∧ Below w.heap.size w w' := by
  obtain ⟨N, T, D⟩ := s
  obtain rfl : N = 0 := h0
  have hv := wrapu_eq t
  have e1 : putS (0, T, D) t = msb (u64 t) 64 := rfl
  have e2 : aftS (0, T, D) t = (1, t, 0) := rfl
  rw [e1, e2]
  have hu := u64_lt t
  obtain ⟨U, hU⟩ : ∃ U, u64 t = U := ⟨_, rfl⟩
  rw [hU] at hv hu ⊢
  clear e1 e2 hU
  have HM := Lib.hid (rbits_any U 64)
  rw [show within 64 = 64 from rfl] at HM
  obtain ⟨S, hS⟩ : ∃ S, bstr (msb U 64) = S := ⟨_, rfl⟩
  rw [hS] at HM ⊢
  clear hS
  go_enter Tryd.func44, Tryd.ntmps44
  go_wp2_with fail
  refine (HM.out _ hu (by omega)).mono ?_
  rintro e w' ⟨rfl, rfl⟩
  go_wp2
  exact bodyPost_ret (v := .tuple #[.string S, .agg #[.int .i64 1, .int .i64 t, .int .i64 0]]) (by simp [results, Tryd.results44, go_sem]) rfl ⟨rfl, ((Below.refl _ _).alloc (Nat.le_refl _) _).alloc (by simp) _⟩
set_option maxRecDepth 20000 in
set_option maxHeartbeats 2000000 in
theorem rput_0 (s : St) (t : Int) (w : World) (h0 : ¬ s.1 = 0) (hk : cls (chg s t) = 0) :
    Calls Tryd.prog 44 #[.agg #[.int .i64 s.1, .int .i64 s.2.1, .int .i64 s.2.2], .int .i64 t] w fun e w' => e = .returned (.tuple #[.string (bstr (putS s t)), .agg #[.int .i64 (aftS s t).1, .int .i64 (aftS s t).2.1, .int .i64 (aftS s t).2.2]]) ∧ Below w.heap.size w w' := by
  have e1 : putS s t = [false] ++ msb (u64 (chg s t - lowC 0)) 0 := by unfold putS codeC valC; rw [if_neg h0, hk]; rfl
  have e2 : aftS s t = (IntKind.i64.wrap (s.1 + 1), t, wrap64 (t - s.2.1)) := by unfold aftS; rw [if_neg h0, wrap_eq]
  have hin := cls_in (chg s t)
  have hout := cls_out (chg s t)
  have hci : okI (chg s t) := okI_wrap _
  rw [e1, e2]
  have hcc : wrap64 (wrap64 (t - s.2.1) - s.2.2) = chg s t := rfl
  have hb0 : (s.1 == 0) = false := by simpa using h0
  obtain ⟨N, T, D⟩ := s
  simp only [] at hb0 hcc ⊢
  generalize chg (N, T, D) t = c at *
  rw [hk] at hin hout
  unfold okI at hci
  have hc0 : c = 0 := by
    rcases hin with h | ⟨h1, h2⟩
    · cases h
    · have h1 : (0 : Int) ≤ c := h1
      have h2 : c ≤ (0 : Int) := h2
      omega
  have hceq : (c == 0) = true := by simpa using hc0
  clear hin hout hk h0 e1 e2
  have e9 : bstr ([false] ++ msb (u64 (c - lowC 0)) 0) = (⟨#[48]⟩ : ByteArray) := rfl
  rw [e9]
  clear e9
  obtain ⟨y, hy⟩ : ∃ y, wrap64 (t - T) = y := ⟨_, rfl⟩
  rw [hy] at hcc ⊢
  obtain ⟨wA, hwA⟩ : ∃ wA, (w.alloc (RtObj (N, T, D))).alloc (RtObj (0, 0, 0)) = wA := ⟨_, rfl⟩
  have hbA : Below w.heap.size w wA := by rw [← hwA]; exact ((Below.refl _ _).alloc (Nat.le_refl _) _).alloc (by simp) _
  have hst : RtAt wA w.heap.size (N, T, D) := by rw [← hwA]; exact (heap_past _ _ (by simp)).trans (heap_alloc_new w _)
  have hres : RtAt wA (w.heap.size + 1) (0, 0, 0) := by rw [← hwA]; exact heap_at _ _ (by simp)
  have c0 := hst.c0
  have c1 := hst.c1
  have c2 := hst.c2
  have HB := Lib.hid hbA
  have HR := Lib.hid hres
  clear hst hbA hres
  change (w.alloc (.cells #[.int .i64 N, .int .i64 T, .int .i64 D] 76 (0, 0))).alloc (.cells #[.int .i64 0, .int .i64 0, .int .i64 0] 76 (0, 0)) = wA at hwA
  go_enter Tryd.func44, Tryd.ntmps44
  go_wp2_with fail
  try rw [hwA]
  go_still_tail 8, (by kernel_rfl)
  have hresd : RtAt wA.drew (w.heap.size + 1) (0, 0, 0) := HR.out
  have hbdr : Below w.heap.size w wA.drew := HB.out.trans ⟨rfl, rfl, rfl, Nat.le_refl _, fun _ _ => rfl⟩
  have hbd : Below w.heap.size w (wA.drew.setRow (w.heap.size + 1) #[.int .i64 (IntKind.i64.wrap (N + 1)), .int .i64 t, .int .i64 y]) := below_setRow hbdr (Nat.le_succ _) _
  have HBD := Lib.hid hbd
  clear hbd hbdr
  go_wp2_with (refine wpList_store_row rfl 76 _ _ rfl (w.heap.size + 1) #[.int .i64 (IntKind.i64.wrap (N + 1)), .int .i64 t, .int .i64 y] rfl rfl 76 _ hresd info_rt rfl (by simp [Value.oneCell']) ?_)
  have hr2 : RtAt (wA.drew.setRow (w.heap.size + 1) #[.int .i64 (IntKind.i64.wrap (N + 1)), .int .i64 t, .int .i64 y]) (w.heap.size + 1) (IntKind.i64.wrap (N + 1), t, y) := setRow_heap _ _ _ _ _ _ hresd
  have r0 := hr2.c0
  have r1 := hr2.c1
  have r2 := hr2.c2
  simp only [] at r0 r1 r2
  refine bodyPost_ret (v := .tuple #[.string ⟨#[48]⟩, .agg #[.int .i64 (IntKind.i64.wrap (N + 1)), .int .i64 t, .int .i64 y]]) ?_ rfl ⟨rfl, HBD.out⟩
  simp [results, Tryd.results44, go_sem, r0, r1, r2]
set_option maxRecDepth 20000 in
set_option maxHeartbeats 2000000 in
theorem rput_1 (s : St) (t : Int) (w : World) (h0 : ¬ s.1 = 0) (hk : cls (chg s t) = 1) :
    Calls Tryd.prog 44 #[.agg #[.int .i64 s.1, .int .i64 s.2.1, .int .i64 s.2.2], .int .i64 t] w fun e w' => e = .returned (.tuple #[.string (bstr (putS s t)), .agg #[.int .i64 (aftS s t).1, .int .i64 (aftS s t).2.1, .int .i64 (aftS s t).2.2]]) ∧ Below w.heap.size w w' := by
  have e1 : putS s t = [true, false] ++ msb (u64 (chg s t - lowC 1)) 7 := by unfold putS codeC valC; rw [if_neg h0, hk]; rfl
  have e2 : aftS s t = (IntKind.i64.wrap (s.1 + 1), t, wrap64 (t - s.2.1)) := by unfold aftS; rw [if_neg h0, wrap_eq]
  have hin := cls_in (chg s t)
  have hout := cls_out (chg s t)
  have hci : okI (chg s t) := okI_wrap _
  rw [e1, e2]
  have hcc : wrap64 (wrap64 (t - s.2.1) - s.2.2) = chg s t := rfl
  have hb0 : (s.1 == 0) = false := by simpa using h0
  obtain ⟨N, T, D⟩ := s
  simp only [] at hb0 hcc ⊢
  generalize chg (N, T, D) t = c at *
  rw [hk] at hin hout
  unfold okI at hci
  have q0 : c < 0 ∨ 0 < c := hout 0 (by omega)
  have hceq : (c == 0) = false := by simp; omega
  obtain ⟨r1, r2⟩ : (-63 : Int) ≤ c ∧ c ≤ 64 := by
    rcases hin with h | ⟨h1, h2⟩
    · cases h
    · exact ⟨h1, h2⟩
  clear hin hout hk h0 e1 e2
  rw [show c - lowC 1 = c + 63 by (show c - (-63) = _; omega)]
  have hv := wrapu_eq (c + 63)
  have hu := u64_lt (c + 63)
  obtain ⟨U, hU⟩ : ∃ U, u64 (c + 63) = U := ⟨_, rfl⟩
  rw [hU] at hv hu ⊢
  clear hU
  have HM := Lib.hid (rbits_any U 7)
  rw [show within 7 = 7 from rfl] at HM
  rw [bstr_append, ← bstr_oz]
  have hsz : (bstr (msb U 7)).size = 7 := by rw [bstr_size, msb_length]
  obtain ⟨S, hS⟩ : ∃ S, bstr (msb U 7) = S := ⟨_, rfl⟩
  rw [hS] at HM hsz ⊢
  clear hS
  obtain ⟨y, hy⟩ : ∃ y, wrap64 (t - T) = y := ⟨_, rfl⟩
  rw [hy] at hcc ⊢
  obtain ⟨wA, hwA⟩ : ∃ wA, (w.alloc (RtObj (N, T, D))).alloc (RtObj (0, 0, 0)) = wA := ⟨_, rfl⟩
  have hbA : Below w.heap.size w wA := by rw [← hwA]; exact ((Below.refl _ _).alloc (Nat.le_refl _) _).alloc (by simp) _
  have hst : RtAt wA w.heap.size (N, T, D) := by rw [← hwA]; exact (heap_past _ _ (by simp)).trans (heap_alloc_new w _)
  have hres : RtAt wA (w.heap.size + 1) (0, 0, 0) := by rw [← hwA]; exact heap_at _ _ (by simp)
  have c0 := hst.c0
  have c1 := hst.c1
  have c2 := hst.c2
  have HB := Lib.hid hbA
  have HR := Lib.hid hres
  clear hst hbA hres
  change (w.alloc (.cells #[.int .i64 N, .int .i64 T, .int .i64 D] 76 (0, 0))).alloc (.cells #[.int .i64 0, .int .i64 0, .int .i64 0] 76 (0, 0)) = wA at hwA
  go_enter Tryd.func44, Tryd.ntmps44
  go_wp2_with fail
  refine (HM.out _ hu (by omega)).mono ?_
  rintro e w' ⟨rfl, rfl⟩
  go_wp2_with fail
  try rw [hwA]
  go_still_tail 8, (by kernel_rfl)
  have hresd : RtAt wA.drew (w.heap.size + 1) (0, 0, 0) := HR.out
  have hbdr : Below w.heap.size w wA.drew := HB.out.trans ⟨rfl, rfl, rfl, Nat.le_refl _, fun _ _ => rfl⟩
  have hbd : Below w.heap.size w (wA.drew.setRow (w.heap.size + 1) #[.int .i64 (IntKind.i64.wrap (N + 1)), .int .i64 t, .int .i64 y]) := below_setRow hbdr (Nat.le_succ _) _
  have HBD := Lib.hid hbd
  clear hbd hbdr
  go_wp2_with (refine wpList_store_row rfl 76 _ _ rfl (w.heap.size + 1) #[.int .i64 (IntKind.i64.wrap (N + 1)), .int .i64 t, .int .i64 y] rfl rfl 76 _ hresd info_rt rfl (by simp [Value.oneCell']) ?_)
  have hr2 : RtAt (wA.drew.setRow (w.heap.size + 1) #[.int .i64 (IntKind.i64.wrap (N + 1)), .int .i64 t, .int .i64 y]) (w.heap.size + 1) (IntKind.i64.wrap (N + 1), t, y) := setRow_heap _ _ _ _ _ _ hresd
  have r0 := hr2.c0
  have r1 := hr2.c1
  have r2 := hr2.c2
  simp only [] at r0 r1 r2
  refine bodyPost_ret (v := .tuple #[.string (⟨#[49, 48]⟩ ++ S), .agg #[.int .i64 (IntKind.i64.wrap (N + 1)), .int .i64 t, .int .i64 y]]) ?_ rfl ⟨rfl, HBD.out⟩
  simp [results, Tryd.results44, go_sem, r0, r1, r2]
set_option maxRecDepth 20000 in
set_option maxHeartbeats 2000000 in
theorem rput_2 (s : St) (t : Int) (w : World) (h0 : ¬ s.1 = 0) (hk : cls (chg s t) = 2) :
    Calls Tryd.prog 44 #[.agg #[.int .i64 s.1, .int .i64 s.2.1, .int .i64 s.2.2], .int .i64 t] w fun e w' => e = .returned (.tuple #[.string (bstr (putS s t)), .agg #[.int .i64 (aftS s t).1, .int .i64 (aftS s t).2.1, .int .i64 (aftS s t).2.2]]) ∧ Below w.heap.size w w' := by
  have e1 : putS s t = [true, true, false] ++ msb (u64 (chg s t - lowC 2)) 9 := by unfold putS codeC valC; rw [if_neg h0, hk]; rfl
  have e2 : aftS s t = (IntKind.i64.wrap (s.1 + 1), t, wrap64 (t - s.2.1)) := by unfold aftS; rw [if_neg h0, wrap_eq]
  have hin := cls_in (chg s t)
  have hout := cls_out (chg s t)
  have hci : okI (chg s t) := okI_wrap _
  rw [e1, e2]
  have hcc : wrap64 (wrap64 (t - s.2.1) - s.2.2) = chg s t := rfl
  have hb0 : (s.1 == 0) = false := by simpa using h0
  obtain ⟨N, T, D⟩ := s
  simp only [] at hb0 hcc ⊢
  generalize chg (N, T, D) t = c at *
  rw [hk] at hin hout
  unfold okI at hci
  have q0 : c < 0 ∨ 0 < c := hout 0 (by omega)
  have hceq : (c == 0) = false := by simp; omega
  have q1 : c < -63 ∨ 64 < c := hout 1 (by omega)
  obtain ⟨r1, r2⟩ : (-255 : Int) ≤ c ∧ c ≤ 256 := by
    rcases hin with h | ⟨h1, h2⟩
    · cases h
    · exact ⟨h1, h2⟩
  clear hin hout hk h0 e1 e2
  rw [show c - lowC 2 = c + 255 by (show c - (-255) = _; omega)]
  have hv := wrapu_eq (c + 255)
  have hu := u64_lt (c + 255)
  obtain ⟨U, hU⟩ : ∃ U, u64 (c + 255) = U := ⟨_, rfl⟩
  rw [hU] at hv hu ⊢
  clear hU
  have HM := Lib.hid (rbits_any U 9)
  rw [show within 9 = 9 from rfl] at HM
  rw [bstr_append, ← bstr_ooz]
  have hsz : (bstr (msb U 9)).size = 9 := by rw [bstr_size, msb_length]
  obtain ⟨S, hS⟩ : ∃ S, bstr (msb U 9) = S := ⟨_, rfl⟩
  rw [hS] at HM hsz ⊢
  clear hS
  obtain ⟨y, hy⟩ : ∃ y, wrap64 (t - T) = y := ⟨_, rfl⟩
  rw [hy] at hcc ⊢
  obtain ⟨wA, hwA⟩ : ∃ wA, (w.alloc (RtObj (N, T, D))).alloc (RtObj (0, 0, 0)) = wA := ⟨_, rfl⟩
  have hbA : Below w.heap.size w wA := by rw [← hwA]; exact ((Below.refl _ _).alloc (Nat.le_refl _) _).alloc (by simp) _
  have hst : RtAt wA w.heap.size (N, T, D) := by rw [← hwA]; exact (heap_past _ _ (by simp)).trans (heap_alloc_new w _)
  have hres : RtAt wA (w.heap.size + 1) (0, 0, 0) := by rw [← hwA]; exact heap_at _ _ (by simp)
  have c0 := hst.c0
  have c1 := hst.c1
  have c2 := hst.c2
  have HB := Lib.hid hbA
  have HR := Lib.hid hres
  clear hst hbA hres
  change (w.alloc (.cells #[.int .i64 N, .int .i64 T, .int .i64 D] 76 (0, 0))).alloc (.cells #[.int .i64 0, .int .i64 0, .int .i64 0] 76 (0, 0)) = wA at hwA
  go_enter Tryd.func44, Tryd.ntmps44
  rcases q1 with q1 | q1
  all_goals first | (exfalso; omega) | skip
  all_goals
    go_wp2_with fail
    refine (HM.out _ hu (by omega)).mono ?_
    rintro e w' ⟨rfl, rfl⟩
    go_wp2_with fail
    try rw [hwA]
    go_still_tail 8, (by kernel_rfl)
    have hresd : RtAt wA.drew (w.heap.size + 1) (0, 0, 0) := HR.out
    have hbdr : Below w.heap.size w wA.drew := HB.out.trans ⟨rfl, rfl, rfl, Nat.le_refl _, fun _ _ => rfl⟩
    have hbd : Below w.heap.size w (wA.drew.setRow (w.heap.size + 1) #[.int .i64 (IntKind.i64.wrap (N + 1)), .int .i64 t, .int .i64 y]) := below_setRow hbdr (Nat.le_succ _) _
    have HBD := Lib.hid hbd
    clear hbd hbdr
    go_wp2_with (refine wpList_store_row rfl 76 _ _ rfl (w.heap.size + 1) #[.int .i64 (IntKind.i64.wrap (N + 1)), .int .i64 t, .int .i64 y] rfl rfl 76 _ hresd info_rt rfl (by simp [Value.oneCell']) ?_)
    have hr2 : RtAt (wA.drew.setRow (w.heap.size + 1) #[.int .i64 (IntKind.i64.wrap (N + 1)), .int .i64 t, .int .i64 y]) (w.heap.size + 1) (IntKind.i64.wrap (N + 1), t, y) := setRow_heap _ _ _ _ _ _ hresd
    have r0 := hr2.c0
    have r1 := hr2.c1
    have r2 := hr2.c2
    simp only [] at r0 r1 r2
    refine bodyPost_ret (v := .tuple #[.string (⟨#[49, 49, 48]⟩ ++ S), .agg #[.int .i64 (IntKind.i64.wrap (N + 1)), .int .i64 t, .int .i64 y]]) ?_ rfl ⟨rfl, HBD.out⟩
    simp [results, Tryd.results44, go_sem, r0, r1, r2]
set_option maxRecDepth 20000 in
set_option maxHeartbeats 2000000 in
theorem rput_3 (s : St) (t : Int) (w : World) (h0 : ¬ s.1 = 0) (hk : cls (chg s t) = 3) :
    Calls Tryd.prog 44 #[.agg #[.int .i64 s.1, .int .i64 s.2.1, .int .i64 s.2.2], .int .i64 t] w fun e w' => e = .returned (.tuple #[.string (bstr (putS s t)), .agg #[.int .i64 (aftS s t).1, .int .i64 (aftS s t).2.1, .int .i64 (aftS s t).2.2]]) ∧ Below w.heap.size w w' := by
  have e1 : putS s t = [true, true, true, false] ++ msb (u64 (chg s t - lowC 3)) 12 := by unfold putS codeC valC; rw [if_neg h0, hk]; rfl
  have e2 : aftS s t = (IntKind.i64.wrap (s.1 + 1), t, wrap64 (t - s.2.1)) := by unfold aftS; rw [if_neg h0, wrap_eq]
  have hin := cls_in (chg s t)
  have hout := cls_out (chg s t)
  have hci : okI (chg s t) := okI_wrap _
  rw [e1, e2]
  have hcc : wrap64 (wrap64 (t - s.2.1) - s.2.2) = chg s t := rfl
  have hb0 : (s.1 == 0) = false := by simpa using h0
  obtain ⟨N, T, D⟩ := s
  simp only [] at hb0 hcc ⊢
  generalize chg (N, T, D) t = c at *
  rw [hk] at hin hout
  unfold okI at hci
  have q0 : c < 0 ∨ 0 < c := hout 0 (by omega)
  have hceq : (c == 0) = false := by simp; omega
  have q1 : c < -63 ∨ 64 < c := hout 1 (by omega)
  have q2 : c < -255 ∨ 256 < c := hout 2 (by omega)
  obtain ⟨r1, r2⟩ : (-2047 : Int) ≤ c ∧ c ≤ 2048 := by
    rcases hin with h | ⟨h1, h2⟩
    · cases h
    · exact ⟨h1, h2⟩
  clear hin hout hk h0 e1 e2
  rw [show c - lowC 3 = c + 2047 by (show c - (-2047) = _; omega)]
  have hv := wrapu_eq (c + 2047)
  have hu := u64_lt (c + 2047)
  obtain ⟨U, hU⟩ : ∃ U, u64 (c + 2047) = U := ⟨_, rfl⟩
  rw [hU] at hv hu ⊢
  clear hU
  have HM := Lib.hid (rbits_any U 12)
  rw [show within 12 = 12 from rfl] at HM
  rw [bstr_append, ← bstr_oooz]
  have hsz : (bstr (msb U 12)).size = 12 := by rw [bstr_size, msb_length]
  obtain ⟨S, hS⟩ : ∃ S, bstr (msb U 12) = S := ⟨_, rfl⟩
  rw [hS] at HM hsz ⊢
  clear hS
  obtain ⟨y, hy⟩ : ∃ y, wrap64 (t - T) = y := ⟨_, rfl⟩
  rw [hy] at hcc ⊢
  obtain ⟨wA, hwA⟩ : ∃ wA, (w.alloc (RtObj (N, T, D))).alloc (RtObj (0, 0, 0)) = wA := ⟨_, rfl⟩
  have hbA : Below w.heap.size w wA := by rw [← hwA]; exact ((Below.refl _ _).alloc (Nat.le_refl _) _).alloc (by simp) _
  have hst : RtAt wA w.heap.size (N, T, D) := by rw [← hwA]; exact (heap_past _ _ (by simp)).trans (heap_alloc_new w _)
  have hres : RtAt wA (w.heap.size + 1) (0, 0, 0) := by rw [← hwA]; exact heap_at _ _ (by simp)
  have c0 := hst.c0
  have c1 := hst.c1
  have c2 := hst.c2
  have HB := Lib.hid hbA
  have HR := Lib.hid hres
  clear hst hbA hres
  change (w.alloc (.cells #[.int .i64 N, .int .i64 T, .int .i64 D] 76 (0, 0))).alloc (.cells #[.int .i64 0, .int .i64 0, .int .i64 0] 76 (0, 0)) = wA at hwA
  go_enter Tryd.func44, Tryd.ntmps44
  rcases q1 with q1 | q1 <;> rcases q2 with q2 | q2
  all_goals first | (exfalso; omega) | skip
  all_goals
    go_wp2_with fail
    refine (HM.out _ hu (by omega)).mono ?_
    rintro e w' ⟨rfl, rfl⟩
    go_wp2_with fail
    try rw [hwA]
    go_still_tail 8, (by kernel_rfl)
    have hresd : RtAt wA.drew (w.heap.size + 1) (0, 0, 0) := HR.out
    have hbdr : Below w.heap.size w wA.drew := HB.out.trans ⟨rfl, rfl, rfl, Nat.le_refl _, fun _ _ => rfl⟩
    have hbd : Below w.heap.size w (wA.drew.setRow (w.heap.size + 1) #[.int .i64 (IntKind.i64.wrap (N + 1)), .int .i64 t, .int .i64 y]) := below_setRow hbdr (Nat.le_succ _) _
    have HBD := Lib.hid hbd
    clear hbd hbdr
    go_wp2_with (refine wpList_store_row rfl 76 _ _ rfl (w.heap.size + 1) #[.int .i64 (IntKind.i64.wrap (N + 1)), .int .i64 t, .int .i64 y] rfl rfl 76 _ hresd info_rt rfl (by simp [Value.oneCell']) ?_)
    have hr2 : RtAt (wA.drew.setRow (w.heap.size + 1) #[.int .i64 (IntKind.i64.wrap (N + 1)), .int .i64 t, .int .i64 y]) (w.heap.size + 1) (IntKind.i64.wrap (N + 1), t, y) := setRow_heap _ _ _ _ _ _ hresd
    have r0 := hr2.c0
    have r1 := hr2.c1
    have r2 := hr2.c2
    simp only [] at r0 r1 r2
    refine bodyPost_ret (v := .tuple #[.string (⟨#[49, 49, 49, 48]⟩ ++ S), .agg #[.int .i64 (IntKind.i64.wrap (N + 1)), .int .i64 t, .int .i64 y]]) ?_ rfl ⟨rfl, HBD.out⟩
    simp [results, Tryd.results44, go_sem, r0, r1, r2]
set_option maxRecDepth 20000 in
set_option maxHeartbeats 2000000 in
theorem rput_4 (s : St) (t : Int) (w : World) (h0 : ¬ s.1 = 0) (hk : cls (chg s t) = 4) :
    Calls Tryd.prog 44 #[.agg #[.int .i64 s.1, .int .i64 s.2.1, .int .i64 s.2.2], .int .i64 t] w fun e w' => e = .returned (.tuple #[.string (bstr (putS s t)), .agg #[.int .i64 (aftS s t).1, .int .i64 (aftS s t).2.1, .int .i64 (aftS s t).2.2]]) ∧ Below w.heap.size w w' := by
  have e1 : putS s t = [true, true, true, true] ++ msb (u64 (chg s t - lowC 4)) 64 := by unfold putS codeC valC; rw [if_neg h0, hk]; rfl
  have e2 : aftS s t = (IntKind.i64.wrap (s.1 + 1), t, wrap64 (t - s.2.1)) := by unfold aftS; rw [if_neg h0, wrap_eq]
  have hin := cls_in (chg s t)
  have hout := cls_out (chg s t)
  have hci : okI (chg s t) := okI_wrap _
  rw [e1, e2]
  have hcc : wrap64 (wrap64 (t - s.2.1) - s.2.2) = chg s t := rfl
  have hb0 : (s.1 == 0) = false := by simpa using h0
  obtain ⟨N, T, D⟩ := s
  simp only [] at hb0 hcc ⊢
  generalize chg (N, T, D) t = c at *
  rw [hk] at hin hout
  unfold okI at hci
  have q0 : c < 0 ∨ 0 < c := hout 0 (by omega)
  have hceq : (c == 0) = false := by simp; omega
  have q1 : c < -63 ∨ 64 < c := hout 1 (by omega)
  have q2 : c < -255 ∨ 256 < c := hout 2 (by omega)
  have q3 : c < -2047 ∨ 2048 < c := hout 3 (by omega)
  clear hin hout hk h0 e1 e2
  rw [show c - lowC 4 = c by (show c - (0) = _; omega)]
  have hv := wrapu_eq (c)
  have hu := u64_lt (c)
  obtain ⟨U, hU⟩ : ∃ U, u64 (c) = U := ⟨_, rfl⟩
  rw [hU] at hv hu ⊢
  clear hU
  have HM := Lib.hid (rbits_any U 64)
  rw [show within 64 = 64 from rfl] at HM
  rw [bstr_append, ← bstr_oooo]
  have hsz : (bstr (msb U 64)).size = 64 := by rw [bstr_size, msb_length]
  obtain ⟨S, hS⟩ : ∃ S, bstr (msb U 64) = S := ⟨_, rfl⟩
  rw [hS] at HM hsz ⊢
  clear hS
  obtain ⟨y, hy⟩ : ∃ y, wrap64 (t - T) = y := ⟨_, rfl⟩
  rw [hy] at hcc ⊢
  obtain ⟨wA, hwA⟩ : ∃ wA, (w.alloc (RtObj (N, T, D))).alloc (RtObj (0, 0, 0)) = wA := ⟨_, rfl⟩
  have hbA : Below w.heap.size w wA := by rw [← hwA]; exact ((Below.refl _ _).alloc (Nat.le_refl _) _).alloc (by simp) _
  have hst : RtAt wA w.heap.size (N, T, D) := by rw [← hwA]; exact (heap_past _ _ (by simp)).trans (heap_alloc_new w _)
  have hres : RtAt wA (w.heap.size + 1) (0, 0, 0) := by rw [← hwA]; exact heap_at _ _ (by simp)
  have c0 := hst.c0
  have c1 := hst.c1
  have c2 := hst.c2
  have HB := Lib.hid hbA
  have HR := Lib.hid hres
  clear hst hbA hres
  change (w.alloc (.cells #[.int .i64 N, .int .i64 T, .int .i64 D] 76 (0, 0))).alloc (.cells #[.int .i64 0, .int .i64 0, .int .i64 0] 76 (0, 0)) = wA at hwA
  go_enter Tryd.func44, Tryd.ntmps44
  rcases q1 with q1 | q1 <;> rcases q2 with q2 | q2 <;> rcases q3 with q3 | q3
  all_goals first | (exfalso; omega) | skip
  all_goals
    go_wp2_with fail
    refine (HM.out _ hu (by omega)).mono ?_
    rintro e w' ⟨rfl, rfl⟩
    go_wp2_with fail
    try rw [hwA]
    go_still_tail 8, (by kernel_rfl)
    have hresd : RtAt wA.drew (w.heap.size + 1) (0, 0, 0) := HR.out
    have hbdr : Below w.heap.size w wA.drew := HB.out.trans ⟨rfl, rfl, rfl, Nat.le_refl _, fun _ _ => rfl⟩
    have hbd : Below w.heap.size w (wA.drew.setRow (w.heap.size + 1) #[.int .i64 (IntKind.i64.wrap (N + 1)), .int .i64 t, .int .i64 y]) := below_setRow hbdr (Nat.le_succ _) _
    have HBD := Lib.hid hbd
    clear hbd hbdr
    go_wp2_with (refine wpList_store_row rfl 76 _ _ rfl (w.heap.size + 1) #[.int .i64 (IntKind.i64.wrap (N + 1)), .int .i64 t, .int .i64 y] rfl rfl 76 _ hresd info_rt rfl (by simp [Value.oneCell']) ?_)
    have hr2 : RtAt (wA.drew.setRow (w.heap.size + 1) #[.int .i64 (IntKind.i64.wrap (N + 1)), .int .i64 t, .int .i64 y]) (w.heap.size + 1) (IntKind.i64.wrap (N + 1), t, y) := setRow_heap _ _ _ _ _ _ hresd
    have r0 := hr2.c0
    have r1 := hr2.c1
    have r2 := hr2.c2
    simp only [] at r0 r1 r2
    refine bodyPost_ret (v := .tuple #[.string (⟨#[49, 49, 49, 49]⟩ ++ S), .agg #[.int .i64 (IntKind.i64.wrap (N + 1)), .int .i64 t, .int .i64 y]]) ?_ rfl ⟨rfl, HBD.out⟩
    simp [results, Tryd.results44, go_sem, r0, r1, r2]
theorem rput_any (s : St) (t : Int) (w : World) :
    Calls Tryd.prog 44 #[.agg #[.int .i64 s.1, .int .i64 s.2.1, .int .i64 s.2.2], .int .i64 t] w fun e w' => e = .returned (.tuple #[.string (bstr (putS s t)), .agg #[.int .i64 (aftS s t).1, .int .i64 (aftS s t).2.1, .int .i64 (aftS s t).2.2]]) ∧ Below w.heap.size w w' := by
  by_cases h0 : s.1 = 0
  · exact rput_first s t w h0
  · have h4 := cls_le (chg s t)
    have : cls (chg s t) = 0 ∨ cls (chg s t) = 1 ∨ cls (chg s t) = 2 ∨ cls (chg s t) = 3 ∨ cls (chg s t) = 4 := by omega
    rcases this with h | h | h | h | h
    · exact rput_0 s t w h0 h
    · exact rput_1 s t w h0 h
    · exact rput_2 s t w h0 h
    · exact rput_3 s t w h0 h
    · exact rput_4 s t w h0 h
end Go.Proofs.YtdidengokijcjaaDoor.StW
/-
  alluviumref04.Get: THE WALK.
-/
namespace Go.Proofs.YtdidengokijcjaaDoor.StW
set_option linter.unusedVariables false
open Go.RowKit Go.Shelf BitsM BitsW StM
/-- What the document's Get tells. -/
def refG (b : List Bool) (s : St) : St × List Bool × Bool := match getS b s with
  | none => (s, b, false)
  | some (t, k) => (aftS s t, b.drop k, true)
theorem get_none_of {b : List Bool} {s : St} (h0 : ¬ s.1 = 0) (h : candC b = none) : refG b s = (s, b, false) := by
  unfold refG getS; rw [if_neg h0, h]; rfl
theorem get_no_put {b : List Bool} {s : St} {c : Int} (hs : okSt s) (h0 : ¬ s.1 = 0) (h : candC b = some c)
    (hp : ¬ ((putS s (wrap64 (wrap64 (s.2.1 + s.2.2) + c))).length ≤ b.length ∧ b.take (putS s (wrap64 (wrap64 (s.2.1 + s.2.2) + c))).length = putS s (wrap64 (wrap64 (s.2.1 + s.2.2) + c)))) : refG b s = (s, b, false) := by
  have hn : getS b s = none := by
    cases hg : getS b s with
    | none => rfl
    | some x =>
      obtain ⟨t, k⟩ := x
      obtain ⟨h1, h2, h3, h4⟩ := put_get b s t k hs hg
      unfold getS at hg
      rw [if_neg h0, h, Option.bind_some] at hg
      split at hg
      · injection hg with hg
        injection hg with e1 e2
        subst e1
        subst h3
        exact absurd ⟨h4, h2⟩ hp
      · cases hg
  unfold refG; rw [hn]
theorem get_yes_put {b : List Bool} {s : St} {t : Int} (hs : okSt s) (ht : okI t) (h1 : (putS s t).length ≤ b.length) (h2 : b.take (putS s t).length = putS s t) : refG b s = (aftS s t, b.drop (putS s t).length, true) := by
  have e : b = putS s t ++ b.drop (putS s t).length := by
    conv => lhs; rw [← List.take_append_drop (putS s t).length b, h2]
  have hg : getS b s = some (t, (putS s t).length) := by
    rw [e]; exact get_put s t hs ht _
  unfold refG; rw [hg]
theorem set3_row {W : World} {g : Nat} {x y z : Value} {t : TypeId} (a b c : Value) (h : W.heap[g]? = some (.cells #[x, y, z] t (0, 0))) : (((W.setCell ⟨g, 0, none⟩ a).setCell ⟨g, 1, none⟩ b).setCell ⟨g, 2, none⟩ c).heap[g]? = some (.cells #[a, b, c] t (0, 0)) := by
  have h1 : (W.setCell ⟨g, 0, none⟩ a).heap[g]? = some (.cells #[a, y, z] t (0, 0)) := heap_setCell_same W g 0 _ _ _ h
  have h2 : ((W.setCell ⟨g, 0, none⟩ a).setCell ⟨g, 1, none⟩ b).heap[g]? = some (.cells #[a, b, z] t (0, 0)) := heap_setCell_same _ g 1 _ _ _ h1
  exact heap_setCell_same _ g 2 _ _ _ h2
theorem set3_below {w W : World} {B g : Nat} (a b c : Value) (h : Below B w W) (hg : B ≤ g) : Below B w (((W.setCell ⟨g, 0, none⟩ a).setCell ⟨g, 1, none⟩ b).setCell ⟨g, 2, none⟩ c) :=
  ((h.setCell hg _).setCell hg _).setCell hg _
end Go.Proofs.YtdidengokijcjaaDoor.StW
/-
  alluviumref04.Get, behind the first time: THE WALK. (Printed by wip/gen/strefh.py.)
-/
namespace Go.Proofs.YtdidengokijcjaaDoor.StW
set_option linter.unusedVariables false
open Go.RowKit Go.Shelf BitsM BitsW StM
theorem ones_end_false {b : List Bool} {i : Nat} (hi : i < 4) (hl : i < b.length) (ht : b.take i = List.replicate i true) (hb : b[i]'hl = false) : ones b = i := by
  refine ones_of _ i (by omega) ht (.inr ?_)
  rw [List.head?_drop, List.getElem?_eq_getElem hl, hb]
  simp
theorem ones_end_len {b : List Bool} {i : Nat} (hi : i ≤ 4) (hl : b.length ≤ i) (ht : b.take i = List.replicate i true) : ones b = i := by
  refine ones_of _ i hi ht (.inr ?_)
  rw [List.head?_drop, List.getElem?_eq_none hl]
  simp
theorem take_next_true {b : List Bool} {i : Nat} (hl : i < b.length) (ht : b.take i = List.replicate i true) (hb : b[i]'hl = true) : b.take (i + 1) = List.replicate (i + 1) true := by
  rw [List.take_add_one, ht, List.getElem?_eq_getElem hl, hb, List.replicate_succ']
  rfl
end Go.Proofs.YtdidengokijcjaaDoor.StW
