/-
  bits.within, bits.pieces AND ITS ITERATOR.
-/
import Derived.Test.YtboomamnenonoaaDoorRows
import Derived.Test.YtboomamnenonoaaDoorRange
namespace Go.Proofs.YtboomamnenonoaaDoor.BitsW
open Go.RowKit
attribute [local go_sem] Oper.semAt_some wide_fn wide_depth wide_fn_in wide_depth_in
/-- How many bits may be at once. -/
def within (n : Int) : Nat := (min (max n 0) 64).toNat
theorem within_le (n : Int) : within n ≤ 64 := by unfold within; omega
theorem within_cast (n : Int) : ((within n : Nat) : Int) = min (max n 0) 64 := by unfold within; omega
set_option maxHeartbeats 400000 in
theorem within_any (n : Int) (w : World) :
    Calls Tryd.prog 43 #[.int .i64 n] w fun e w' => e = .returned (.int .i64 (within n : Nat)) ∧ w = w' := by
  go_enter Tryd.func43, Tryd.ntmps43
  by_cases h0 : n < 0
  · go_wp2
    go_ret
    exact ⟨ret_int (by rw [within_cast]; omega), rfl⟩
  · by_cases h1 : 64 < n
    · go_wp2
      go_ret
      exact ⟨ret_int (by rw [within_cast]; omega), rfl⟩
    · go_wp2
      go_ret
      exact ⟨ret_int (by rw [within_cast]; omega), rfl⟩
set_option maxHeartbeats 400000 in
theorem pieces_any (f n : Int) (w : World) :
    Calls Tryd.prog 44 #[.int .i64 f, .int .i64 n] w fun e w' => e = .returned (.func (.func 47) #[] #[.pointer (some ⟨w.heap.size + 1, 0, none⟩), .pointer (some ⟨w.heap.size, 0, none⟩)]) ∧ (w.alloc (.cells #[.int .i64 f] 3)).alloc (.cells #[.int .i64 n] 3) = w' := by
  go_enter Tryd.func44, Tryd.ntmps44
  go_wp2
  go_ret
  exact ⟨rfl, rfl⟩
/-- The states of the cut: at which bit, and how many are left. -/
def take (s : Nat × Nat) : Nat := min s.2 (8 - s.1 % 8)
def pcNext (s : Nat × Nat) : Nat × Nat := (s.1 + take s, s.2 - take s)
def pcEncs (s : Nat × Nat) : Array Value := #[.int .i64 ((s.1 % 8 : Nat) : Int), .int .i64 ((take s : Nat) : Int)]
def pcMore (s : Nat × Nat) : Prop := 0 < s.2
def pcOwn (bf bn : Nat) (s : Nat × Nat) (W : World) : Prop := s.1 + s.2 ≤ 1099511627776 ∧ s.2 ≤ 64 ∧
  W.cell? ⟨bf, 0, none⟩ = some (.int .i64 ((s.1 : Nat) : Int)) ∧ W.frozen? ⟨bf, 0, none⟩ = false ∧ W.cell? ⟨bn, 0, none⟩ = some (.int .i64 ((s.2 : Nat) : Int)) ∧ W.frozen? ⟨bn, 0, none⟩ = false
def pcBegins (bn : Nat) (n0 : Int) (W : World) : Prop := W.cell? ⟨bn, 0, none⟩ = some (.int .i64 n0) ∧ W.frozen? ⟨bn, 0, none⟩ = false
def pcBegun (bn : Nat) (n0 : Int) (W : World) : World := W.setCell ⟨bn, 0, none⟩ (.int .i64 (within n0 : Nat))
def pcStepped (bf bn : Nat) (s : Nat × Nat) (W : World) : World := (W.setCell ⟨bf, 0, none⟩ (.int .i64 (((pcNext s).1 : Nat) : Int))).setCell ⟨bn, 0, none⟩ (.int .i64 (((pcNext s).2 : Nat) : Int))
set_option maxHeartbeats 1000000 in
theorem pieces_iter (bf bn f0 : Nat) (n0 : Int) (hne : bf ≠ bn) :
    Iter Tryd.prog 47 #[.pointer (some ⟨bn, 0, none⟩), .pointer (some ⟨bf, 0, none⟩)] pcEncs pcMore pcNext (f0, within n0) (pcOwn bf bn) (pcBegins bn n0) (pcBegun bn n0) (pcStepped bf bn) := by
  intro l n J J' hJ hJ' hS hY W hW h0
  obtain ⟨hc, hf⟩ := hW
  have H0 := Lib.hid h0
  clear h0
  refine callsIn_of_wp Tryd.func47 rfl trivial ?_ rfl
  simp only [Tryd.ntmps47, List.size_toArray, List.length_cons, List.length_nil, Nat.reduceAdd, Nat.reduceSub, Array.replicate_succ, Array.replicate_zero, List.push_toArray, List.append_toArray, List.nil_append, List.cons_append]
  gi_wp2_with (gi_at_call 43; refine (callsIn_wide.2 (within_any _ _)).mono ?_; rintro e w' ⟨rfl, rfl⟩)
  rw [show W.setCell ⟨bn, 0, none⟩ (.int .i64 (within n0 : Nat)) = pcBegun bn n0 W from rfl]
  generalize hW1 : pcBegun bn n0 W = W1 at *
  clear hW1 hc hf
  gi_loopw [4, 5] (fun _ _ wr => ∃ f m : Nat, J (f, m) wr) (fun _ _ wr => match wr.cell? ⟨bn, 0, none⟩ with | some v => (intOf v).toNat | none => 0)
  case atStart => exact ⟨_, _, H0.out⟩
  case round =>
    obtain ⟨f, m, hj⟩ := hrel
    obtain ⟨o1, o2, o3, o4, o5, o6⟩ := hJ _ _ hj
    simp only [] at o1 o2 o3 o5
    have HJ := Lib.hid hj
    by_cases hm : m = 0
    · subst hm
      clear hj
      gi_wp2
      go_end0
      exact ⟨⟨_, rfl⟩, (f, 0), by simp [pcMore], HJ.out⟩
    · have hpos : 0 < m := by omega
      have hmi : (0 : Int) < (m : Int) := by omega
      obtain ⟨fn, tmps, assign, body, hy, hR⟩ := hY _ _ (show pcMore (f, m) from hpos) hj
      clear hj
      have ht0 : 0 < take (f, m) := by unfold take; simp only []; omega
      have ht1 : take (f, m) ≤ m := by unfold take; simp only []; omega
      have hlast : ∀ (W' : World), J' (f, m) W' → ∀ (tv : Int), tv = (take (f, m) : Nat) →
          (∃ f' m' : Nat, J (f', m') ((W'.setCell ⟨bf, 0, none⟩ (.int .i64 ((f : Int) + tv))).setCell ⟨bn, 0, none⟩ (.int .i64 ((m : Int) - tv)))) ∧
          (match ((W'.setCell ⟨bf, 0, none⟩ (.int .i64 ((f : Int) + tv))).setCell ⟨bn, 0, none⟩ (.int .i64 ((m : Int) - tv))).cell? ⟨bn, 0, none⟩ with | some v => (intOf v).toNat | none => 0) < (match wr.cell? ⟨bn, 0, none⟩ with | some v => (intOf v).toNat | none => 0) := by
        intro W' hj' tv htv
        have e : (W'.setCell ⟨bf, 0, none⟩ (.int .i64 ((f : Int) + tv))).setCell ⟨bn, 0, none⟩ (.int .i64 ((m : Int) - tv)) = pcStepped bf bn (f, m) W' := by
          unfold pcStepped pcNext
          rw [show ((f : Int) + tv) = ((f + take (f, m) : Nat) : Int) by omega, show ((m : Int) - tv) = ((m - take (f, m) : Nat) : Int) by omega]
        rw [e]
        have hjn := hS _ _ (show pcMore (f, m) from hpos) hj'
        have hown := hJ _ _ hjn
        refine ⟨⟨_, _, hjn⟩, ?_⟩
        rw [hown.2.2.2.2.1, o5]
        show (intOf (.int .i64 (((m - take (f, m) : Nat)) : Int))).toNat < (intOf (.int .i64 (m : Int))).toNat
        simp only [intOf]
        omega
      have HL := Lib.hid hlast
      clear hlast
      by_cases hmt : (8 : Int) - (f : Int) % 8 < (m : Int)
      · have ht : 8 - (f : Int) % 8 = (take (f, m) : Nat) := by unfold take; simp only []; omega
        have e : pcEncs (f, m) = #[.int .i64 ((f : Int) % 8), .int .i64 (8 - (f : Int) % 8)] := by
          show (#[.int .i64 ((f % 8 : Nat) : Int), .int .i64 ((take (f, m) : Nat) : Int)] : Array Value) = _
          rw [← ht, show ((f % 8 : Nat) : Int) = (f : Int) % 8 from by omega]
        rw [e] at hy
        have HT := Lib.hid ht
        clear e ht
        gi_wp2
        refine hR.mono ?_
        rintro e W' ⟨rfl, hj'⟩
        obtain ⟨p1, p2, p3, p4, p5, p6⟩ := hJ' _ _ hj'
        simp only [] at p3 p5
        have hl := HL.out W' hj' _ HT.out
        have HL2 := Lib.hid hl
        clear hl hj' hy o3 o4 o5 o6
        gi_wp2
        exact HL2.out
      · have ht : (m : Int) = (take (f, m) : Nat) := by unfold take; simp only []; omega
        have e : pcEncs (f, m) = #[.int .i64 ((f : Int) % 8), .int .i64 (m : Int)] := by
          show (#[.int .i64 ((f % 8 : Nat) : Int), .int .i64 ((take (f, m) : Nat) : Int)] : Array Value) = _
          rw [← ht, show ((f % 8 : Nat) : Int) = (f : Int) % 8 from by omega]
        rw [e] at hy
        have HT := Lib.hid ht
        clear e ht
        gi_wp2
        refine hR.mono ?_
        rintro e W' ⟨rfl, hj'⟩
        obtain ⟨p1, p2, p3, p4, p5, p6⟩ := hJ' _ _ hj'
        simp only [] at p3 p5
        have hl := HL.out W' hj' _ HT.out
        have HL2 := Lib.hid hl
        clear hl hj' hy o3 o4 o5 o6
        gi_wp2
        rw [show (0 : Int) = (m : Int) - (m : Int) by omega]
        exact HL2.out
end Go.Proofs.YtboomamnenonoaaDoor.BitsW
