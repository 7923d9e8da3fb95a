/-
  THE STATEMENT CrcTurned (alluviumlaw01): its walk.
-/
import Derived.Test.YtmjablbbgnbmgaaCrcLawB
import Derived.Test.YtmjablbbgnbmgaaOpen
import Derived.Deep.RegionHeld3
namespace Go.Proofs.Ytmjablbbgnbmgaa.CrcW
open Go.RowKit CrcM
def zip3 (a b c : List UInt8) : List UInt8 := (List.range 9).map fun i => a.getD i 0 ^^^ b.getD i 0 ^^^ c.getD i 0
/-- What stands in the fourth array behind k rounds. -/
def turnedCells (a b c : List UInt8) (k : Nat) (cs : Array Value) : Prop := cs.size = 9 ∧ ∀ i, i < k → cs[i]? = some (.int .u8 ((a.getD i 0 ^^^ b.getD i 0 ^^^ c.getD i 0).toNat : Int))
theorem bc_get {l : List UInt8} {i : Nat} (hi : i < l.length) : ((byteCells l).toArray)[i]? = some (.int .u8 ((l.getD i 0).toNat : Int)) := by
  simp [byteCells, List.getElem?_map, List.getElem?_eq_getElem hi]
theorem xor_u8 (a b : UInt8) : bits .xor .u8 (a.toNat : Int) (b.toNat : Int) = ((a ^^^ b).toNat : Int) := by
  rw [u8_xor_nat _ _ a.toNat_lt b.toNat_lt, UInt8.toNat_xor]
theorem list9 {l : List UInt8} (h : l.length = 9) : ∃ x0 x1 x2 x3 x4 x5 x6 x7 x8, l = [x0, x1, x2, x3, x4, x5, x6, x7, x8] := by
  match l, h with
  | [x0, x1, x2, x3, x4, x5, x6, x7, x8], _ => exact ⟨x0, x1, x2, x3, x4, x5, x6, x7, x8, rfl⟩
theorem turned (a b c : List UInt8) (ha : a.length = 9) (hb : b.length = 9) (hc : c.length = 9) : xr (xr (cof a) (cof b)) (cof c) = cof (zip3 a b c) := by
  obtain ⟨a0, a1, a2, a3, a4, a5, a6, a7, a8, rfl⟩ := list9 ha
  obtain ⟨b0, b1, b2, b3, b4, b5, b6, b7, b8, rfl⟩ := list9 hb
  obtain ⟨c0, c1, c2, c3, c4, c5, c6, c7, c8, rfl⟩ := list9 hc
  have e : zip3 [a0, a1, a2, a3, a4, a5, a6, a7, a8] [b0, b1, b2, b3, b4, b5, b6, b7, b8] [c0, c1, c2, c3, c4, c5, c6, c7, c8] =
      [a0 ^^^ b0 ^^^ c0, a1 ^^^ b1 ^^^ c1, a2 ^^^ b2 ^^^ c2, a3 ^^^ b3 ^^^ c3, a4 ^^^ b4 ^^^ c4, a5 ^^^ b5 ^^^ c5, a6 ^^^ b6 ^^^ c6, a7 ^^^ b7 ^^^ c7, a8 ^^^ b8 ^^^ c8] := rfl
  rw [e]
  unfold xr cof con crun
  have h3 : ∀ x y z : BitVec 32, ~~~x ^^^ ~~~y ^^^ ~~~z = ~~~(x ^^^ y ^^^ z) := by
    intro x y z
    apply BitVec.eq_of_getLsbD_eq
    intro i hi
    simp only [BitVec.getLsbD_xor, BitVec.getLsbD_not, hi, decide_true, Bool.true_and]
    cases x.getLsbD i <;> cases y.getLsbD i <;> cases z.getLsbD i <;> rfl
  rw [h3]
  congr 1
  have h0 : (~~~0#32 : BitVec 32) = ~~~0#32 ^^^ ~~~0#32 ^^^ ~~~0#32 := by decide
  conv => rhs; rw [h0]
  simp only [List.foldl_cons, List.foldl_nil, byteStep_xor3]
def Four (W : World) (b0 b1 b2 b3 : Nat) (a b c d : List UInt8) : Prop := Holds W b0 36 a ∧ Holds W b1 36 b ∧ Holds W b2 36 c ∧ Holds W b3 36 d
def FourS (b0 b1 b2 b3 : Nat) (a b c d : List UInt8) (W : World) : Prop := Four W b0 b1 b2 b3 a b c d ∧
    (convert 32 9 (.slice (some ⟨b0, 0, none⟩) 9 9)).run Try.prog W = .ok (.string ⟨a.toArray⟩) W ∧
    (convert 32 9 (.slice (some ⟨b1, 0, none⟩) 9 9)).run Try.prog W = .ok (.string ⟨b.toArray⟩) W ∧
    (convert 32 9 (.slice (some ⟨b2, 0, none⟩) 9 9)).run Try.prog W = .ok (.string ⟨c.toArray⟩) W ∧
    (convert 32 9 (.slice (some ⟨b3, 0, none⟩) 9 9)).run Try.prog W = .ok (.string ⟨d.toArray⟩) W
theorem Four.all {W : World} {b0 b1 b2 b3 : Nat} {a b c d : List UInt8} (h : Four W b0 b1 b2 b3 a b c d) (ha : a.length = 9) (hb : b.length = 9) (hc : c.length = 9) (hd : d.length = 9) : FourS b0 b1 b2 b3 a b c d W :=
  ⟨h, h.1.conv Try.underlying32 Try.underlying5 Try.underlying9 9 ha.symm 9, h.2.1.conv Try.underlying32 Try.underlying5 Try.underlying9 9 hb.symm 9,
    h.2.2.1.conv Try.underlying32 Try.underlying5 Try.underlying9 9 hc.symm 9, h.2.2.2.conv Try.underlying32 Try.underlying5 Try.underlying9 9 hd.symm 9⟩
theorem Four.keep {W W' : World} {b0 b1 b2 b3 : Nat} {a b c d : List UInt8} (h : Four W b0 b1 b2 b3 a b c d) (hb : Below W.heap.size W W') : Four W' b0 b1 b2 b3 a b c d :=
  ⟨h.1.keep hb, h.2.1.keep hb, h.2.2.1.keep hb, h.2.2.2.keep hb⟩
attribute [local go_sem] w_xor
set_option maxHeartbeats 2000000 in
theorem crcTurned_walk0 (a b c : List UInt8) (ha : a.length = 9) (hb : b.length = 9) (hc : c.length = 9) (w : World) :
    Calls Try.prog 8 #[.agg (byteCells a).toArray, .agg (byteCells b).toArray, .agg (byteCells c).toArray] w fun e w' => e = .returned (.bool true) ∧ Below w.heap.size w w' := by
  go_enter Try.func8, Try.ntmps8
  generalize hA : (byteCells a).toArray = A
  generalize hB : (byteCells b).toArray = B
  generalize hC : (byteCells c).toArray = C
  have HA := Lib.hid hA
  have HB := Lib.hid hB
  have HC := Lib.hid hC
  clear hA hB hC
  go_wp2_with fail
  refine (works_any _).mono ?_
  rintro e w1 ⟨rfl, hb1⟩
  go_wp2_with fail
  have hsz : w.heap.size + 1 + 1 < w1.heap.size := by have := hb1.size; simp at this; omega
  have gA : w1.heap[w.heap.size]? = some (.cells A 36 (0, 0)) := by
    rw [hb1.block _ (by simp; omega)]
    rw [Below.heap_alloc _ _ _ (by simp; omega), Below.heap_alloc _ _ _ (by simp), heap_alloc_new]
  have gB : w1.heap[w.heap.size + 1]? = some (.cells B 36 (0, 0)) := by
    rw [hb1.block _ (by simp)]
    rw [Below.heap_alloc _ _ _ (by simp), heap_alloc2_new]
  have gC : w1.heap[w.heap.size + 1 + 1]? = some (.cells C 36 (0, 0)) := by
    rw [hb1.block _ (by simp)]
    have := heap_alloc_new ((w.alloc (Obj.cells A 36)).alloc (Obj.cells B 36)) (Obj.cells C 36)
    simpa using this
  have hw1 : Below w.heap.size w w1 := ((((Below.refl _ w).alloc (Nat.le_refl _) _).alloc (by simp) _).alloc (by simp; omega) _).trans (hb1.mono (by simp; omega))
  clear hb1
  go_loopw [9] (fun v9 wr => ∃ (k : Nat) (cs : Array Value), k ≤ 9 ∧ v9 = .int .i64 k ∧ Below w1.heap.size w1 wr ∧ wr.heap[w1.heap.size]? = some (.cells cs 36 (0, 0)) ∧ turnedCells a b c k cs) (fun v9 _ => 9 - (intOf v9).toNat)
  case atStart => exact ⟨0, _, by omega, rfl, (Below.refl _ _).alloc (Nat.le_refl _) _, heap_alloc_new _ _, rfl, fun i hi => by omega⟩
  case round =>
    obtain ⟨k, cs, hk, rfl, hb, hd, ht⟩ := hrel
    have hzr : w1.heap.size < wr.heap.size := by
      rcases Nat.lt_or_ge w1.heap.size wr.heap.size with h | h
      · exact h
      · rw [Array.getElem?_eq_none h] at hd; cases hd
    have rA : wr.heap[w.heap.size]? = some (.cells A 36 (0, 0)) := (hb.block _ (by omega)).trans gA
    have rB : wr.heap[w.heap.size + 1]? = some (.cells B 36 (0, 0)) := (hb.block _ (by omega)).trans gB
    have rC : wr.heap[w.heap.size + 1 + 1]? = some (.cells C 36 (0, 0)) := (hb.block _ (by omega)).trans gC
    by_cases hlt : k < 9
    · have cA : wr.cell? ⟨w.heap.size, k, none⟩ = some (.int .u8 ((a.getD k 0).toNat : Int)) := by rw [cell_of_row wr _ k A _ _ rA, ← HA.out]; exact bc_get (by omega)
      have cB : wr.cell? ⟨w.heap.size + 1, k, none⟩ = some (.int .u8 ((b.getD k 0).toNat : Int)) := by rw [cell_of_row wr _ k B _ _ rB, ← HB.out]; exact bc_get (by omega)
      have cC : wr.cell? ⟨w.heap.size + 1 + 1, k, none⟩ = some (.int .u8 ((c.getD k 0).toNat : Int)) := by rw [cell_of_row wr _ k C _ _ rC, ← HC.out]; exact bc_get (by omega)
      have hcell : wr.cell? ⟨w1.heap.size, k, none⟩ = some cs[k]! := by rw [cell_of_row wr _ k cs _ _ hd]; have := ht.1; simp [hlt, this]
      have hfro : wr.frozen? ⟨w1.heap.size, k, none⟩ = false := frozen_of_row wr _ k cs _ hd
      have hx := xor_u8
      have Hd := Lib.hid hd
      have HrA := Lib.hid rA
      have HrB := Lib.hid rB
      have HrC := Lib.hid rC
      have h0 : (0 : Int) ≤ (k : Int) := by omega
      have h9 : (k : Int) < 9 := by omega
      clear hd rA rB rC gA gB gC
      have E3 := Lib.hid (show ((a.getD k 0 ^^^ b.getD k 0 ^^^ c.getD k 0).toNat : Int) = bits .xor .u8 (((a.getD k 0).toNat ^^^ (b.getD k 0).toNat : Nat) : Int) ((c.getD k 0).toNat : Int) by rw [← UInt8.toNat_xor, xor_u8])
      have Ht : ∀ v, v = Value.int .u8 ((a.getD k 0 ^^^ b.getD k 0 ^^^ c.getD k 0).toNat : Int) → turnedCells a b c (k + 1) (cs.setIfInBounds k v) := by
        intro v hv
        refine ⟨by simp [ht.1], fun i hi => ?_⟩
        by_cases e : i = k
        · subst e; rw [Array.getElem?_setIfInBounds_self_of_lt (by rw [ht.1]; omega), hv]
        · rw [Array.getElem?_setIfInBounds_ne (by omega)]; exact ht.2 i (by omega)
      have HT := Lib.hid Ht
      clear Ht
      generalize a.getD k 0 = xa at *
      generalize b.getD k 0 = xb at *
      generalize c.getD k 0 = xc at *
      go_wp2
      go_region
      go_wp2
      go_roundw
      case rel => exact ⟨k + 1, _, by omega, by go_num, (hb.setCell (p := ⟨w1.heap.size, k, none⟩) (Nat.le_refl _) _).drew, heap_setCell_same wr _ k cs _ _ Hd.out, HT.out _ (by rw [E3.out])⟩
      case measure => simp [intOf]; omega
    · obtain rfl : k = 9 := by omega
      have HA9 : Holds wr w.heap.size 36 a := by unfold Holds; rw [HA.out]; exact rA
      have HB9 : Holds wr (w.heap.size + 1) 36 b := by unfold Holds; rw [HB.out]; exact rB
      have HC9 : Holds wr (w.heap.size + 1 + 1) 36 c := by unfold Holds; rw [HC.out]; exact rC
      have HD9 : Holds wr w1.heap.size 36 (zip3 a b c) := by
        unfold Holds
        rw [hd]
        congr 2
        apply Array.ext_getElem?
        intro i
        rcases Nat.lt_or_ge i 9 with hi | hi
        · rw [ht.2 i hi, bc_get (by simp [zip3]; omega)]; simp [zip3, hi]
        · rw [Array.getElem?_eq_none (by have := ht.1; omega), Array.getElem?_eq_none (by simp [byteCells, zip3]; omega)]
      have ld : (zip3 a b c).length = 9 := by simp [zip3]
      have hw2 : Below w.heap.size w wr := later hw1 hb
      clear rA rB rC gA gB gC hd ht hb hw1
      have h4 : Four wr w.heap.size (w.heap.size + 1) (w.heap.size + 1 + 1) w1.heap.size a b c (zip3 a b c) := ⟨HA9, HB9, HC9, HD9⟩
      have E := turned a b c ha hb hc
      have na := small_len a.toArray (by simp; omega)
      have nb := small_len b.toArray (by simp; omega)
      have nc := small_len c.toArray (by simp; omega)
      have nd := small_len (zip3 a b c).toArray (by simp; omega)
      have K := Lib.hid (fun (W W' : World) (h : Below w.heap.size w W ∧ Four W w.heap.size (w.heap.size + 1) (w.heap.size + 1 + 1) w1.heap.size a b c (zip3 a b c)) (hb' : Below W.heap.size W W') => let q := (h.2.keep hb').all ha hb hc ld
        (⟨⟨later h.1 hb', q.1⟩, q.2⟩ : (Below w.heap.size w W' ∧ Four W' w.heap.size (w.heap.size + 1) (w.heap.size + 1 + 1) w1.heap.size a b c (zip3 a b c)) ∧ _))
      have H4 := Lib.hid (And.intro hw2 h4)
      clear HA9 HB9 HC9 HD9 h4 hw2
      go_wp2_with fail
      go_region_held3 (fun W : World => (Below w.heap.size w W ∧ Four W w.heap.size (w.heap.size + 1) (w.heap.size + 1 + 1) w1.heap.size a b c (zip3 a b c)) ∧ (convert 32 9 (.slice (some ⟨w.heap.size, 0, none⟩) 9 9)).run Try.prog W = .ok (.string ⟨a.toArray⟩) W ∧ (convert 32 9 (.slice (some ⟨w.heap.size + 1, 0, none⟩) 9 9)).run Try.prog W = .ok (.string ⟨b.toArray⟩) W ∧ (convert 32 9 (.slice (some ⟨w.heap.size + 1 + 1, 0, none⟩) 9 9)).run Try.prog W = .ok (.string ⟨c.toArray⟩) W ∧ (convert 32 9 (.slice (some ⟨w1.heap.size, 0, none⟩) 9 9)).run Try.prog W = .ok (.string ⟨(zip3 a b c).toArray⟩) W) (first | exact K.out _ _ H4.out (Below.drew (Below.refl _ _)) | exact K.out _ _ (And.left (by assumption)) (by assumption)) ((go_at_call 12; refine (of_any _ _ (by assumption)).mono ?_; rintro e w3 ⟨rfl, hb3⟩))
      go_wp2
      go_ret
      exact ⟨rfl, And.left (And.left (by assumption))⟩
theorem crcTurned_walk (a b c : List UInt8) (ha : a.length = 9) (hb : b.length = 9) (hc : c.length = 9) (w : World) :
    Calls Try.prog 8 #[.agg (byteCells a).toArray, .agg (byteCells b).toArray, .agg (byteCells c).toArray] w fun e w' => e = .returned (.bool true) ∧ Below w.heap.size w w' := crcTurned_walk0 a b c ha hb hc w
end Go.Proofs.Ytmjablbbgnbmgaa.CrcW
