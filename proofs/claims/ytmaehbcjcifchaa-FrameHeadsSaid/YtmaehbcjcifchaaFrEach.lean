/-
  frame.each: THE ITERATOR.
-/
import Derived.Test.YtmaehbcjcifchaaFrGet
import Derived.Test.YtmaehbcjcifchaaRangeR
namespace Go.Proofs.Ytmaehbcjcifchaa.FrW
set_option linter.unusedVariables false
open Go.RowKit CrcM CrcW FrM
attribute [local go_sem] Oper.semAt_some wide_fn wide_depth wide_fn_in wide_depth_in
def evEncs (most : Int) (s : List UInt8) : Array Value := #[.string (bs (getF s most).1), .string (bs (getF s most).2.1)]
def evMore (most : Int) (s : List UInt8) : Prop := s ≠ [] ∧ (getF s most).2.2 = 0
def evNext (most : Int) (s : List UInt8) : List UInt8 := (getF s most).2.1
/-- The cells of the iterator: the bytes that are left, the most, the pointer, the shape. -/
structure EvOwn (b1 b2 b3 b4 : Nat) (most : Int) (s : List UInt8) (W : World) : Prop where
  r1 : W.heap[b1]? = some (.cells #[.string (bs s)] 9 (0, 0))
  r2 : W.heap[b2]? = some (.cells #[.int .i64 most] 3 (0, 0))
  r3 : W.heap[b3]? = some (.cells #[.pointer (some ⟨b4, 0, none⟩)] 53 (0, 0))
  r4 : ∃ x : Int, W.heap[b4]? = some (.cells #[.int .i64 x] 28 (0, 0))
  len : s.length ≤ 2199023255552
/-- What the iterator does with the bytes s, from the loop's head on. -/
def evWork (b4 : Nat) (most : Int) (s : List UInt8) (W W' : World) : Prop :=
  (s = [] ∧ W' = W) ∨ (s ≠ [] ∧ ∃ W2, Below W.heap.size W W2 ∧ W' = W2.setCell ⟨b4, 0, none⟩ (.int .i64 ((getF s most).2.2 : Int)))
def evStep (b1 b4 : Nat) (most : Int) (s : List UInt8) (W W' : World) : Prop := evWork b4 most (evNext most s) (W.setCell ⟨b1, 0, none⟩ (.string (bs (evNext most s)))) W'
theorem frm_pos (b : List UInt8) : 5 ≤ (frm b).length := by rw [frm_len]; have := sm_pos 9 b.length; show 5 ≤ (sm 9 b.length).length + _ + 4; omega
theorem evNext_len {most : Int} {s : List UInt8} (h : evMore most s) : (evNext most s).length < s.length := by
  obtain ⟨h1, h2⟩ := h
  have hg : getF s most = ((getF s most).1, evNext most s, 0) := by
    unfold evNext
    rw [← h2]
  have := congrArg List.length (getF_only hg).1
  rw [List.length_append] at this
  have := frm_pos (getF s most).1
  omega
theorem get_tup (l : List UInt8) (most : Int) (w : World) (hl : l.length ≤ 2199023255552) (hm : most ≤ 9223372036854775807) :
    Calls Try.prog 14 #[.string (bs l), .int .i64 most] w fun e w' => e = .returned (.tuple #[.string (bs (getF l most).1), .string (bs (getF l most).2.1), .int .i64 ((getF l most).2.2 : Int)]) ∧ Below w.heap.size w w' := get_any l most w hl hm
set_option maxRecDepth 20000 in
set_option maxHeartbeats 2000000 in
theorem each_iter (b1 b2 b3 b4 : Nat) (most : Int) (s0 : List UInt8) (hm : most ≤ 9223372036854775807) (n12 : b1 ≠ b2) (n13 : b1 ≠ b3) (n14 : b1 ≠ b4) (n24 : b2 ≠ b4) (n34 : b3 ≠ b4) :
    IterR Try.prog 33 #[.pointer (some ⟨b1, 0, none⟩), .pointer (some ⟨b2, 0, none⟩), .pointer (some ⟨b3, 0, none⟩)] (evEncs most) (evMore most) (evNext most) s0 (EvOwn b1 b2 b3 b4 most) (EvOwn b1 b2 b3 b4 most s0) (evWork b4 most s0) (evStep b1 b4 most) := by
  intro l n J J' E hJ' hS hSE hY W hW h0 h0E
  have H0 := Lib.hid (show ∃ s : List UInt8, EvOwn b1 b2 b3 b4 most s W ∧ (∀ W', evWork b4 most s W W' → evMore most s → J s W') ∧ (∀ W', evWork b4 most s W W' → ¬ evMore most s → E s W') from ⟨s0, hW, h0, h0E⟩)
  clear h0 h0E hW
  refine callsIn_of_wp Try.func33 rfl trivial ?_ rfl
  simp only [Try.ntmps33, List.size_toArray, List.length_cons, List.length_nil, Nat.reduceAdd, Nat.reduceSub, Array.replicate_succ, Array.replicate_zero, List.push_toArray, List.append_toArray, List.nil_append, List.cons_append]
  gi_wp2_with fail
  gi_loopw [5] (fun _ wr => ∃ s : List UInt8, EvOwn b1 b2 b3 b4 most s wr ∧ (∀ W', evWork b4 most s wr W' → evMore most s → J s W') ∧ (∀ W', evWork b4 most s wr W' → ¬ evMore most s → E s W')) (fun _ wr => match wr.cell? ⟨b1, 0, none⟩ with | some (.string x) => x.size | _ => 0)
  case atStart => exact H0.out
  case round =>
    obtain ⟨s, hown, hj, he⟩ := hrel
    have HJ := Lib.hid (And.intro hj he)
    have HO := Lib.hid hown
    have c1 : wr.cell? ⟨b1, 0, none⟩ = some (.string (bs s)) := by rw [cell_of_row wr _ _ _ _ _ hown.r1]; rfl
    have c2 : wr.cell? ⟨b2, 0, none⟩ = some (.int .i64 most) := by rw [cell_of_row wr _ _ _ _ _ hown.r2]; rfl
    clear hj he hown
    by_cases hs : s = []
    · subst hs
      have HE := Lib.hid (HJ.out.2 wr (.inl ⟨rfl, rfl⟩) (fun h => h.1 rfl))
      rw [bs_nil] at c1
      gi_wp2
      go_end0
      exact ⟨⟨_, rfl⟩, [], fun h => h.1 rfl, HE.out⟩
    · have HG := Lib.hid (fun W => get_tup s most W HO.out.len hm)
      have hne : (bs s).toList.isEmpty = false := by
        rw [ByteArray.toList_eq, bs_list]; cases s with
        | nil => exact absurd rfl hs
        | cons a b => rfl
      have c3 : wr.cell? ⟨b3, 0, none⟩ = some (.pointer (some ⟨b4, 0, none⟩)) := by rw [cell_of_row wr _ _ _ _ _ HO.out.r3]; rfl
      have HW : Hid (∀ W2, Below wr.heap.size wr W2 → W2.cell? ⟨b3, 0, none⟩ = some (.pointer (some ⟨b4, 0, none⟩)) ∧ (∃ x : Int, W2.cell? ⟨b4, 0, none⟩ = some (.int .i64 x)) ∧ W2.frozen? ⟨b4, 0, none⟩ = false) := Lib.hid (fun W2 hb => by
        have e3 := (hb.block b3 (Array.getElem?_eq_some_iff.1 HO.out.r3).1).trans HO.out.r3
        obtain ⟨x, h4⟩ := HO.out.r4
        have e4 := (hb.block b4 (Array.getElem?_eq_some_iff.1 h4).1).trans h4
        exact ⟨by rw [cell_of_row W2 _ _ _ _ _ e3]; rfl, ⟨x, by rw [cell_of_row W2 _ _ _ _ _ e4]; rfl⟩, frozen_of_row W2 _ _ _ _ e4⟩)
      have HF : Hid (∀ W2, Below wr.heap.size wr W2 → ((getF s most).2.2 ≠ 0 → E s (W2.setCell ⟨b4, 0, none⟩ (.int .i64 ((getF s most).2.2 : Int)))) ∧ ((getF s most).2.2 = 0 → J s (W2.setCell ⟨b4, 0, none⟩ (.int .i64 ((getF s most).2.2 : Int))))) := Lib.hid (fun W2 hb =>
        ⟨fun h => HJ.out.2 _ (.inr ⟨hs, W2, hb, rfl⟩) (fun h2 => h h2.2), fun h => HJ.out.1 _ (.inr ⟨hs, W2, hb, rfl⟩) ⟨hs, h⟩⟩)
      have HZ := Lib.hid (fun h => evNext_len (most := most) (s := s) ⟨hs, h⟩)
      have HNX : Hid (∀ W4, (getF s most).2.2 = 0 → J' s W4 → ∃ s', s'.length < s.length ∧ EvOwn b1 b2 b3 b4 most s' (W4.setCell ⟨b1, 0, none⟩ (.string (bs (getF s most).2.1))) ∧ (∀ W', evWork b4 most s' (W4.setCell ⟨b1, 0, none⟩ (.string (bs (getF s most).2.1))) W' → evMore most s' → J s' W') ∧ (∀ W', evWork b4 most s' (W4.setCell ⟨b1, 0, none⟩ (.string (bs (getF s most).2.1))) W' → ¬ evMore most s' → E s' W')) := Lib.hid (fun W4 h0 hj4 => by
        have hmore : evMore most s := ⟨hs, h0⟩
        have ho := hJ' _ _ hj4
        have hlen := evNext_len hmore
        obtain ⟨x, h4⟩ := ho.r4
        refine ⟨evNext most s, hlen, ⟨heap_setCell_same W4 b1 0 _ _ _ ho.r1, (heap_setCell_other _ _ _ _ (Ne.symm n12)).trans ho.r2, (heap_setCell_other _ _ _ _ (Ne.symm n13)).trans ho.r3, ⟨x, (heap_setCell_other _ _ _ _ (Ne.symm n14)).trans h4⟩, by have := ho.len; omega⟩, fun W' hw hm' => hS s W4 W' hmore hj4 hw hm', fun W' hw hm' => hSE s W4 W' hmore hj4 hw hm'⟩)
      have HY := Lib.hid (fun W h0 h => hY s W ⟨hs, h0⟩ h)
      have hzr : (match wr.cell? ⟨b1, 0, none⟩ with | some (.string x) => x.size | _ => 0) = s.length := by rw [c1]; exact bs_size s
      have HZR := Lib.hid hzr
      obtain ⟨X, hX⟩ : ∃ X, bs s = X := ⟨_, rfl⟩
      rw [hX] at c1 hne HG
      have HOW4 : Hid (∀ W4, J' s W4 → W4.cell? ⟨b1, 0, none⟩ = some (.string X) ∧ W4.frozen? ⟨b1, 0, none⟩ = false) := Lib.hid (fun W4 h => ⟨by rw [cell_of_row W4 _ _ _ _ _ (hJ' _ _ h).r1, ← hX]; rfl, frozen_of_row W4 _ _ _ _ (hJ' _ _ h).r1⟩)
      unfold evEncs at HY
      have hmr : Hid (evMore most s → (getF s most).2.2 = 0) := Lib.hid (fun h => h.2)
      obtain ⟨⟨gb, gr, gsh⟩, hG⟩ : ∃ G, getF s most = G := ⟨_, rfl⟩
      rw [hG] at HG HF HNX HY hmr
      simp only [] at HG HF HNX HY hmr
      clear hX hG hs hzr
      by_cases h0 : gsh = 0
      · have HFJ : Hid (∀ W2, Below wr.heap.size wr W2 → J s (W2.setCell ⟨b4, 0, none⟩ (.int .i64 0))) := Lib.hid (fun W2 hb => by have h := (HF.out W2 hb).2 h0; rw [h0] at h; exact h)
        have HNX2 := Lib.hid (fun W4 h => HNX.out W4 h0 h)
        have HY2 := Lib.hid (fun W h => HY.out W h0 h)
        clear HF HNX HY hmr HZ
        subst h0
        gi_wp2_with (gi_at_call 14; refine (callsIn_wide.2 (HG.out _)).mono ?_; rintro e W2 ⟨rfl, hb2⟩; have hd3 := (HW.out _ hb2).1; obtain ⟨x, hd4⟩ := (HW.out _ hb2).2.1; have hf4 := (HW.out _ hb2).2.2; have hj3 := HFJ.out _ hb2; obtain ⟨fn, tmps, assign, body, hy, hR⟩ := HY2.out _ hj3; clear hj3 hb2 HW HFJ c1 c2 c3)
        refine hR.mono ?_
        rintro e W4 ⟨rfl, hj4⟩
        have hq1 := (HOW4.out _ hj4).1
        have hq2 := (HOW4.out _ hj4).2
        obtain ⟨s', hl', ho', hJ1, hE1⟩ := HNX2.out _ hj4
        have HEND := Lib.hid (show (∃ s' : List UInt8, EvOwn b1 b2 b3 b4 most s' (W4.setCell ⟨b1, 0, none⟩ (.string (bs gr))) ∧ (∀ W', evWork b4 most s' (W4.setCell ⟨b1, 0, none⟩ (.string (bs gr))) W' → evMore most s' → J s' W') ∧ (∀ W', evWork b4 most s' (W4.setCell ⟨b1, 0, none⟩ (.string (bs gr))) W' → ¬ evMore most s' → E s' W')) ∧ (match (W4.setCell ⟨b1, 0, none⟩ (.string (bs gr))).cell? ⟨b1, 0, none⟩ with | some (.string x) => x.size | _ => 0) < (match wr.cell? ⟨b1, 0, none⟩ with | some (.string x) => x.size | _ => 0) from ⟨⟨s', ho', hJ1, hE1⟩, by
          rw [HZR.out, cell_of_row _ _ _ _ _ _ ho'.r1]
          show (bs s').size < _
          rw [bs_size]; exact hl'⟩)
        clear hj4 hl' ho' hJ1 hE1 hy
        gi_wp2
        exact HEND.out
      · have hshb : ((gsh : Int) != 0) = true := by simp; omega
        have hnm : Hid (¬ evMore most s) := Lib.hid (fun h => h0 (hmr.out h))
        have HFE := Lib.hid (fun W2 hb => (HF.out W2 hb).1 h0)
        clear HF HNX HY hmr HZ
        gi_wp2_with (gi_at_call 14; refine (callsIn_wide.2 (HG.out _)).mono ?_; rintro e W2 ⟨rfl, hb2⟩; have hd3 := (HW.out _ hb2).1; obtain ⟨x, hd4⟩ := (HW.out _ hb2).2.1; have hf4 := (HW.out _ hb2).2.2; have HE := Lib.hid (HFE.out _ hb2); clear hb2 HW HFE c1 c2 c3)
        exact bodyPost_ret (results_none rfl _ _ _) rfl ⟨⟨_, rfl⟩, s, hnm.out, HE.out⟩
set_option maxHeartbeats 400000 in
theorem each_any (l : List UInt8) (most : Int) (g : Nat) (w : World) :
    Calls Try.prog 25 #[.string (bs l), .int .i64 most, .pointer (some ⟨g, 0, none⟩)] w fun e w' => e = .returned (.func (Fn.func 33) #[] #[.pointer (some ⟨w.heap.size, 0, none⟩), .pointer (some ⟨w.heap.size + 1, 0, none⟩), .pointer (some ⟨w.heap.size + 1 + 1, 0, none⟩)]) ∧
      w' = ((w.alloc (.cells #[.string (bs l)] 9 (0, 0))).alloc (.cells #[.int .i64 most] 3 (0, 0))).alloc (.cells #[.pointer (some ⟨g, 0, none⟩)] 53 (0, 0)) := by
  go_enter Try.func25, Try.ntmps25
  go_wp2
  go_ret
  exact ⟨rfl, rfl⟩
end Go.Proofs.Ytmaehbcjcifchaa.FrW
