/-
  match.each, match.Select: THE WALKS.
-/
import Derived.Test.YtdacefmcnjoboaaMatRef
import Derived.Test.YtdacefmcnjoboaaRangeR
import Derived.RangeFuncNested
import Derived.RangeFuncBound
import Derived.RangeFuncCalls
import Derived.RangeFuncLeaves
import Derived.Shelf.RegionOpen
import Derived.OwnWalkIn
import Derived.TacticsInMore
import Derived.LoopNIn
import Derived.LoopIn
namespace Go.Proofs.Ytdacefmcnjoboaa.LabW
open Go.RowKit Go.Shelf LabM
attribute [local go_sem] Oper.semAt_some wide_fn wide_depth wide_fn_in wide_depth_in
/-- Labels in memory: where their slice lies, and what they are. -/
abbrev Hdr := (Option Addr × Nat × Nat) × List Lab
def encH (x : Hdr) : List Value := [.slice x.1.1 x.1.2.1 x.1.2.2]
def okH (w : World) (x : Hdr) : Prop := Comes w 2 encL okL x.1.1 x.1.2.1 x.1.2.2 x.2 ∧ x.1.2.1 ≤ 1000000
/-- The places of labels that all fit. -/
def places (ms : List Mat) (ls : List Hdr) : List Nat := (List.range ls.length).filter fun i => match ls[i]? with | some x => allB ms x.2 | none => false
theorem filter_range_at (p : Nat → Bool) (n i : Nat) (hi : i < n) (hp : p i = true) : ((List.range n).filter p)[((List.range i).filter p).length]? = some i := by
  have e : List.range n = List.range i ++ (i :: (List.range (n - (i + 1))).map (i + 1 + ·)) := by
    have h1 := @List.range_add i (n - i)
    rw [show i + (n - i) = n by omega] at h1
    rw [h1]
    congr 1
    rw [show n - i = (n - (i + 1)) + 1 by omega, List.range_succ_eq_map, List.map_cons, List.map_map]
    congr 1
    apply List.map_congr_left
    intro a _
    simp; omega
  rw [e, List.filter_append, List.getElem?_append_right (Nat.le_refl _), Nat.sub_self, List.filter_cons, if_pos hp]
  rfl
theorem H_cells {w : World} {A : Option Addr} {l : List Hdr} (h : Lies w w.heap.size 1 encH A l) {k : Nat} (hk : k < l.length) :
    ∃ b o, A = some ⟨b, o, none⟩ ∧ ∀ W, Below w.heap.size w W → W.cell? ⟨b, o + k, none⟩ = some (.slice l[k].1.1 l[k].1.2.1 l[k].1.2.2) := by
  obtain ⟨b, o, hA, _, hc⟩ := h.all hk
  exact ⟨b, o, hA, fun W hW => by have := hc W hW 0 _ rfl; simpa using this⟩
theorem each_any (A1 : Option Addr) (n1 c1 : Nat) (A : Option Addr) (n c : Nat) (w : World) :
    Calls Try.prog 38 #[.slice A1 n1 c1, .slice A n c] w fun e w' => e = .returned (.func (.func 46) #[] #[.pointer (some ⟨w.heap.size + 1, 0, none⟩), .pointer (some ⟨w.heap.size, 0, none⟩)]) ∧ w' = (w.alloc (.cells #[.slice A1 n1 c1] 22)).alloc (.cells #[.slice A n c] 23) := by
  go_enter Try.func38, Try.ntmps38
  go_wp2
  go_ret
  exact ⟨rfl, rfl⟩
/-- What the iterator needs of memory. -/
structure EachMem (bl bm : Nat) (A1 : Option Addr) (n1 c1 : Nat) (ms : List Mat) (A : Option Addr) (n c : Nat) (ls : List Hdr) (W : World) : Prop where
  cl : W.cell? ⟨bl, 0, none⟩ = some (.slice A n c)
  cm : W.cell? ⟨bm, 0, none⟩ = some (.slice A1 n1 c1)
  hl : Comes W 1 encH (fun _ => True) A n c ls
  hs : ∀ x ∈ ls, okH W x
  hm : Comes W 3 encM okM A1 n1 c1 ms
set_option maxHeartbeats 2000000 in
theorem each_iter (bl bm : Nat) (A1 : Option Addr) (n1 c1 : Nat) (ms : List Mat) (A : Option Addr) (n c : Nat) (ls : List Hdr) (O : World → Prop) (hn1 : n1 ≤ 1000000) (hO : ∀ W, O W → EachMem bl bm A1 n1 c1 ms A n c ls W) (hOB : ∀ W W', O W → Below W.heap.size W W' → O W') :
    IterR Try.prog 46 #[.pointer (some ⟨bl, 0, none⟩), .pointer (some ⟨bm, 0, none⟩)] (fun j : Nat => #[.int .i64 (((places ms ls).getD j 0 : Nat) : Int)]) (fun j => j < (places ms ls).length) (· + 1) 0 (fun _ => O) O (fun W W' => Below W.heap.size W W') (fun _ W W' => Below W.heap.size W W') := by
  intro l nn J J' hJ hJ' hS hY W hW h0
  have hE := hO W hW
  have hcl := hE.cl
  have hle := hE.hl.le
  have hcap : c ≤ 9223372036854775807 := hE.hl.cap
  have hlen := hE.hl.len
  have H0 := Lib.hid h0
  have HJ := Lib.hid (And.intro hJ (And.intro hJ' hS))
  have HY := Lib.hid hY
  have HO := Lib.hid (And.intro hO hOB)
  have HW := Lib.hid hW
  clear h0 hJ hJ' hS hY hO hOB hW hE
  refine callsIn_of_wp Try.func46 rfl trivial ?_ rfl
  simp only [Try.ntmps46, List.size_toArray, List.length_cons, List.length_nil, Nat.reduceAdd, Nat.reduceSub, Array.replicate_succ, Array.replicate_zero, List.push_toArray, List.append_toArray, List.nil_append, List.cons_append]
  gi_wp2_with fail
  gi_loopw [8] (fun v8 wr => ∃ i j : Nat, i ≤ n ∧ v8 = .int .i64 i ∧ j = ((List.range i).filter fun i => match ls[i]? with | some x => allB ms x.2 | none => false).length ∧ O wr ∧ ∀ W', Below wr.heap.size wr W' → J j W') (fun v8 _ => n - (intOf v8).toNat)
  case atStart => exact ⟨0, 0, Nat.zero_le _, rfl, rfl, HW.out, H0.out⟩
  case round =>
    obtain ⟨i, j, hi, rfl, hj, ho, hp⟩ := hrel
    by_cases hlt : i < n
    · have hil : i < ls.length := by omega
      have hE := HO.out.1 _ ho
      obtain ⟨b, o, hA, hcs⟩ := H_cells hE.hl.lies hil
      have hc0 := hcs _ (Below.refl _ _)
      have hcm := hE.cm
      have hx := hE.hs _ (List.getElem_mem hil)
      have hi? : ls[i]? = some ls[i] := List.getElem?_eq_getElem hil
      generalize ls[i] = x at *
      obtain ⟨⟨Ax, nx, cx⟩, lx⟩ := x
      simp only [] at hc0
      have HXX := Lib.hid hx
      have HM := Lib.hid hE.hm
      have HP := Lib.hid hp
      have HOO := Lib.hid ho
      have HI := Lib.hid (And.intro hj hi?)
      subst hA
      have i0 : (0 : Int) ≤ (i : Int) := by omega
      have i1 : (i : Int) < (n : Int) := by omega
      clear hx hp ho hj hi? hcs hE
      gi_wp2_with fail
      refine (callsIn_wide.2 (all_any A1 n1 c1 ms Ax nx cx lx wr HM.out HXX.out.1 hn1 HXX.out.2)).mono ?_
      rintro e w1 ⟨rfl, hb1⟩
      have hrs : ((List.range (i + 1)).filter fun i => match ls[i]? with | some x => allB ms x.2 | none => false) = ((List.range i).filter fun i => match ls[i]? with | some x => allB ms x.2 | none => false) ++ if allB ms lx then [i] else [] := by
        rw [List.range_succ, List.filter_append]
        congr 1
        cases h : allB ms lx <;> simp [HI.out.2, h]
      cases hfit : allB ms lx
      · rw [hfit, if_neg (by decide), List.append_nil] at hrs
        have HR := Lib.hid hrs
        have HN := Lib.hid (show O w1 ∧ ∀ W', Below w1.heap.size w1 W' → J j W' from ⟨HO.out.2 _ _ HOO.out hb1, fun W' hW' => HP.out W' (later hb1 hW')⟩)
        clear hrs hb1 hfit
        gi_wp2_with fail
        refine ⟨⟨i + 1, j, by omega, by go_num, by rw [HR.out]; exact HI.out.1, HN.out.1, HN.out.2⟩, ?_⟩
        simp [intOf]; omega
      · rw [hfit, if_pos rfl] at hrs
        have hat := filter_range_at (fun i => match ls[i]? with | some x => allB ms x.2 | none => false) ls.length i hil (by simp only [HI.out.2]; exact hfit)
        rw [← HI.out.1] at hat
        have hlt2 : j < (places ms ls).length := (List.getElem?_eq_some_iff.1 hat).1
        have hgd : (places ms ls).getD j 0 = i := by
          rw [List.getD_eq_getElem?_getD]
          show ((places ms ls)[j]?).getD 0 = i
          rw [show (places ms ls)[j]? = some i from hat]; rfl
        obtain ⟨fn, tmps, assign, body, hy, hR⟩ := HY.out j w1 hlt2 (HP.out w1 hb1)
        rw [hgd] at hy
        have HR := Lib.hid hrs
        have HL2 := Lib.hid hlt2
        clear hrs hb1 hfit hat hlt2 hgd hcm hc0
        gi_wp2_with fail
        refine hR.mono ?_
        rintro e W' ⟨rfl, hj'⟩
        have HN := Lib.hid (show O W' ∧ ∀ W'', Below W'.heap.size W' W'' → J (j + 1) W'' from ⟨HJ.out.2.1 _ _ hj', fun W'' hW'' => HJ.out.2.2 _ _ _ HL2.out hj' hW''⟩)
        clear hj' hy hR
        gi_wp2_with fail
        refine ⟨⟨i + 1, j + 1, by omega, by go_num, by rw [HR.out, List.length_append, ← HI.out.1]; rfl, HN.out.1, HN.out.2⟩, ?_⟩
        simp [intOf]; omega
    · obtain rfl : i = n := by omega
      have hend : j = (places ms ls).length := by rw [hj, ← hlen]; rfl
      have HP := Lib.hid (And.intro hend (hp _ (Below.refl _ _)))
      clear hp ho hj hend
      gi_wp2_with fail
      go_end0
      exact ⟨⟨_, rfl⟩, j, by rw [HP.out.1]; omega, HP.out.2⟩
end Go.Proofs.Ytdacefmcnjoboaa.LabW
