/-
  WRITERS AND READERS OF THE CALL'S OWN, SINCE IT BEGAN: one writer, two writers, one reader.
  TIMES AS BITS: THE SMALL FUNCTIONS, WALKED.
  A WRITER THAT IS PUT ONTO, BESIDE BLOCKS OF THE CALL'S OWN.
  TIMES AS BITS: Put, Cost, WALKED.
-/
import Derived.Test.YtdidengokijcjaaDoorJ08
import Derived.Test.YtdidengokijcjaaDoorJ09
import Derived.Test.YtdidengokijcjaaDoorJ03
/-
  WRITERS AND READERS OF THE CALL'S OWN, SINCE IT BEGAN: one writer, two writers, one reader.
-/
namespace Go.Proofs.YtdidengokijcjaaDoor.BitsW
open Go.RowKit Go.Shelf BitsM
theorem WriterAt.later {W W' : World} {bw : Nat} {rb : Option Nat} {b : List Bool} (h : WriterAt W bw rb b) (hb : Below W.heap.size W W') : WriterAt W' bw rb b := by
  refine h.of_blocks (fun cs t fr hx => (hb.block _ (Array.getElem?_eq_some_iff.1 hx).1).trans hx) (fun g _ cs t fr hx => (hb.block _ (Array.getElem?_eq_some_iff.1 hx).1).trans hx)
theorem ReaderAt.later {W W' : World} {br : Nat} {s : ByteArray} {p : Nat} (h : ReaderAt W br s p) (hb : Below W.heap.size W W') : ReaderAt W' br s p := (hb.block _ (Array.getElem?_eq_some_iff.1 h).1).trans h
theorem WriterAt.lt {W : World} {bw : Nat} {rb : Option Nat} {b : List Bool} (h : WriterAt W bw rb b) : bw < W.heap.size := by
  obtain ⟨v, hb, -⟩ := h
  exact (Array.getElem?_eq_some_iff.1 hb).1
theorem WriterAt.rlt {W : World} {bw : Nat} {rb : Option Nat} {b : List Bool} (h : WriterAt W bw rb b) : ∀ g, rb = some g → g < W.heap.size := by
  obtain ⟨v, -, hr, -, ho⟩ := h
  intro g hg
  exact (ho.lt g (hr.trans hg)).2
theorem WriterAt.ne {W : World} {bw : Nat} {rb : Option Nat} {b : List Bool} (h : WriterAt W bw rb b) : rb ≠ some bw := by
  obtain ⟨v, -, -, hn, -⟩ := h
  exact hn
/-- Since w: a writer in bw of the call's own, with the bits b. -/
structure One (w W : World) (bw : Nat) (b : List Bool) : Prop where
  below : Below w.heap.size w W
  wr : ∃ rb, WriterAt W bw rb b ∧ ∀ g, rb = some g → w.heap.size ≤ g
  hb : w.heap.size ≤ bw
theorem One.later {w W W' : World} {bw : Nat} {b : List Bool} (h : One w W bw b) (hb : Below W.heap.size W W') : One w W' bw b := by
  obtain ⟨rb, h1, h2⟩ := h.wr
  exact ⟨h.below.trans (hb.mono h.below.size), ⟨rb, h1.later hb, h2⟩, h.hb⟩
theorem One.drew {w W : World} {bw : Nat} {b : List Bool} (h : One w W bw b) : One w W.drew bw b := h.later ⟨rfl, rfl, rfl, Nat.le_refl _, fun _ _ => rfl⟩
theorem One.drewN {w W : World} {bw : Nat} {b : List Bool} (h : One w W bw b) (n : Nat) : One w (W.drewN n) bw b := h.later ⟨rfl, rfl, rfl, Nat.le_refl _, fun _ _ => rfl⟩
theorem One.since {w0 w W : World} {bw : Nat} {b : List Bool} (h : One w W bw b) (hb : Below w0.heap.size w0 w) : One w0 W bw b := by
  obtain ⟨rb, h1, h2⟩ := h.wr
  have := hb.size
  exact ⟨hb.trans (h.below.mono hb.size), ⟨rb, h1, fun g hg => by have := h2 g hg; omega⟩, by have := h.hb; omega⟩
theorem One.new {w W : World} (h : WriterAt W w.heap.size none []) (hb : Below w.heap.size w W) : One w W w.heap.size [] := ⟨hb, ⟨none, h, fun g h => by cases h⟩, Nat.le_refl _⟩
theorem One.lt {w W : World} {bw : Nat} {b : List Bool} (h : One w W bw b) : bw < W.heap.size := by
  obtain ⟨rb, h1, -⟩ := h.wr
  exact h1.lt
theorem One.put {w W : World} {bw : Nat} {b : List Bool} (h : One w W bw b) (hl : b.length + 64 ≤ 1099511627776) (v n : Int) (hv0 : 0 ≤ v) (hv1 : v < 18446744073709551616) :
    Calls Tryd.prog 83 #[.pointer (some ⟨bw, 0, none⟩), .int .u64 v, .int .i64 n] W fun e W' => e = .returned (.tuple #[]) ∧ One w W' bw (b ++ msb v.toNat (within n)) := by
  obtain ⟨rb, h1, h3⟩ := h.wr
  refine (put_any bw rb b v n W h1 hl hv0 hv1).mono ?_
  rintro e W' ⟨rfl, q⟩
  refine ⟨rfl, ?_⟩
  obtain ⟨rb', q1, q2⟩ := q.wr
  have hold := h.below.size
  refine ⟨h.below.trans ⟨q.os, q.tape, q.output, q.size, fun k hk => q.old k (by omega) (by have := h.hb; omega) (fun e => by have := h3 k e.symm; omega)⟩, ⟨rb', q1, ?_⟩, h.hb⟩
  intro g hg
  rcases q2 with q2 | ⟨g', q2, q3⟩
  · exact h3 g (q2 ▸ hg)
  · rw [q2] at hg; cases hg; omega
theorem One.bytes {w W : World} {bw : Nat} {b : List Bool} (h : One w W bw b) : Calls Tryd.prog 73 #[.pointer (some ⟨bw, 0, none⟩)] W fun e W' => e = .returned (.string ⟨(pack b).toArray⟩) ∧ W = W' := by
  obtain ⟨rb, h1, -⟩ := h.wr
  exact bytes_any bw rb b W h1
/-- Since w: two writers of the call's own. -/
structure Pair (w W : World) (ba bb : Nat) (x y : List Bool) : Prop where
  below : Below w.heap.size w W
  wr : ∃ ra rb, WriterAt W ba ra x ∧ WriterAt W bb rb y ∧ ra ≠ some bb ∧ rb ≠ some ba ∧ (∀ g, ra = some g → rb ≠ some g) ∧ (∀ g, ra = some g → w.heap.size ≤ g) ∧ (∀ g, rb = some g → w.heap.size ≤ g)
  ne : ba ≠ bb
  ha : w.heap.size ≤ ba
  hb : w.heap.size ≤ bb
theorem Pair.symm {w W : World} {ba bb : Nat} {x y : List Bool} (h : Pair w W ba bb x y) : Pair w W bb ba y x := by
  obtain ⟨ra, rb, h1, h2, h3, h4, h5, h6, h7⟩ := h.wr
  exact ⟨h.below, ⟨rb, ra, h2, h1, h4, h3, fun g hg e => h5 g e hg, h7, h6⟩, fun e => h.ne e.symm, h.hb, h.ha⟩
theorem Pair.later {w W W' : World} {ba bb : Nat} {x y : List Bool} (h : Pair w W ba bb x y) (hb : Below W.heap.size W W') : Pair w W' ba bb x y := by
  obtain ⟨ra, rb, h1, h2, rest⟩ := h.wr
  exact ⟨h.below.trans (hb.mono h.below.size), ⟨ra, rb, h1.later hb, h2.later hb, rest⟩, h.ne, h.ha, h.hb⟩
theorem Pair.one {w W : World} {ba bb : Nat} {x y : List Bool} (h : Pair w W ba bb x y) : One w W ba x := by
  obtain ⟨ra, rb, h1, h2, h3, h4, h5, h6, h7⟩ := h.wr
  exact ⟨h.below, ⟨ra, h1, h6⟩, h.ha⟩
theorem Pair.two {w W : World} {ba bb : Nat} {x y : List Bool} (h : Pair w W ba bb x y) : One w W bb y := h.symm.one
theorem Pair.put {w W : World} {ba bb : Nat} {x y : List Bool} (h : Pair w W ba bb x y) (hl : x.length + 64 ≤ 1099511627776) (v n : Int) (hv0 : 0 ≤ v) (hv1 : v < 18446744073709551616) :
    Calls Tryd.prog 83 #[.pointer (some ⟨ba, 0, none⟩), .int .u64 v, .int .i64 n] W fun e W' => e = .returned (.tuple #[]) ∧ Pair w W' ba bb (x ++ msb v.toNat (within n)) y := by
  obtain ⟨ra, rb, h1, h2, h3, h4, h5, h6, h7⟩ := h.wr
  refine (put_any ba ra x v n W h1 hl hv0 hv1).mono ?_
  rintro e W' ⟨rfl, q⟩
  refine ⟨rfl, ?_⟩
  obtain ⟨ra', q1, q2⟩ := q.wr
  have hold := h.below.size
  have hbb := h2.lt
  have keepb : WriterAt W' bb rb y := by
    refine h2.of_blocks (fun cs t fr hx => (q.old _ hbb (Ne.symm h.ne) (fun e => h3 e.symm)).trans hx) (fun g hg cs t fr hx => (q.old g (h2.rlt g hg) ?_ ?_).trans hx)
    · intro e; subst e; exact h4 hg
    · intro e; exact h5 g e.symm hg
  refine ⟨h.below.trans ⟨q.os, q.tape, q.output, q.size, fun k hk => q.old k (by omega) (by have := h.ha; omega) (fun e => by have := h6 k e.symm; omega)⟩, ⟨ra', rb, q1, keepb, ?_, h4, ?_, ?_, h7⟩, h.ne, h.ha, h.hb⟩
  · rcases q2 with q2 | ⟨g', q2, q3⟩
    · rw [q2]; exact h3
    · rw [q2]; intro e; cases e; omega
  · intro g hg hg2
    rcases q2 with q2 | ⟨g', q2, q3⟩
    · exact h5 g (q2 ▸ hg) hg2
    · rw [q2] at hg; cases hg; have := h2.rlt _ hg2; omega
  · intro g hg
    rcases q2 with q2 | ⟨g', q2, q3⟩
    · exact h6 g (q2 ▸ hg)
    · rw [q2] at hg; cases hg; omega
theorem Pair.put2 {w W : World} {ba bb : Nat} {x y : List Bool} (h : Pair w W ba bb x y) (hl : y.length + 64 ≤ 1099511627776) (v n : Int) (hv0 : 0 ≤ v) (hv1 : v < 18446744073709551616) :
    Calls Tryd.prog 83 #[.pointer (some ⟨bb, 0, none⟩), .int .u64 v, .int .i64 n] W fun e W' => e = .returned (.tuple #[]) ∧ Pair w W' ba bb x (y ++ msb v.toNat (within n)) :=
  (h.symm.put hl v n hv0 hv1).mono fun _ _ ⟨he, hp⟩ => ⟨he, hp.symm⟩
theorem One.second {w W W' : World} {ba : Nat} {x : List Bool} (h : One w W ba x) (hw : WriterAt W' W.heap.size none []) (hb : Below W.heap.size W W') : Pair w W' ba W.heap.size x [] := by
  obtain ⟨ra, h1, h2⟩ := h.wr
  have h3 := h1.lt
  exact ⟨h.below.trans (hb.mono h.below.size), ⟨ra, none, h1.later hb, hw, fun e => by have := h1.rlt _ e; omega, (fun e => by cases e), (fun g _ e => by cases e), h2, (fun g e => by cases e)⟩, by omega, h.hb, h.below.size⟩
/-- Since w: a reader of the call's own. -/
structure Rd (w W : World) (br : Nat) (s : ByteArray) (p : Nat) : Prop where
  below : Below w.heap.size w W
  rd : ReaderAt W br s p
  hr : w.heap.size ≤ br
theorem Rd.later {w W W' : World} {br : Nat} {s : ByteArray} {p : Nat} (h : Rd w W br s p) (hb : Below W.heap.size W W') : Rd w W' br s p := ⟨h.below.trans (hb.mono h.below.size), h.rd.later hb, h.hr⟩
theorem Rd.since {w0 w W : World} {br : Nat} {s : ByteArray} {p : Nat} (h : Rd w W br s p) (hb : Below w0.heap.size w0 w) : Rd w0 W br s p := ⟨hb.trans (h.below.mono hb.size), h.rd, by have := hb.size; have := h.hr; omega⟩
theorem Rd.new {w W : World} {s : ByteArray} (h : ReaderAt W w.heap.size s 0) (hb : Below w.heap.size w W) : Rd w W w.heap.size s 0 := ⟨hb, h, Nat.le_refl _⟩
theorem Rd.got {w W W' : World} {br : Nat} {s : ByteArray} {p q : Nat} (h : Rd w W br s p) (hr : Read W br s q W') : Rd w W' br s q :=
  ⟨h.below.trans ⟨hr.os, hr.tape, hr.output, hr.size, fun k hk => hr.old k (Nat.lt_of_lt_of_le hk h.below.size) (by have := h.hr; omega)⟩, hr.rd, h.hr⟩
/-- What a get tells: the number, and whether there are as many bits. -/
def gotV (s : ByteArray) (p : Nat) (n : Int) : Nat := if 8 * s.size < p + within n then 0 else numB (((unpack s.data.toList).drop p).take (within n))
def gotP (s : ByteArray) (p : Nat) (n : Int) : Nat := if 8 * s.size < p + within n then p else p + within n
def gotOk (s : ByteArray) (p : Nat) (n : Int) : Bool := !decide (8 * s.size < p + within n)
theorem gotP_le {s : ByteArray} {p : Nat} {n : Int} (h : p ≤ 8 * s.size) : gotP s p n ≤ 8 * s.size := by
  unfold gotP; split <;> omega
theorem get_any (br : Nat) (s : ByteArray) (p : Nat) (n : Int) (w : World) (hr : ReaderAt w br s p) (hs : s.size ≤ 68719476736) (hp : p ≤ 8 * s.size) :
    Calls Tryd.prog 92 #[.pointer (some ⟨br, 0, none⟩), .int .i64 n] w fun e w' => e = .returned (.tuple #[.int .u64 (gotV s p n : Int), .bool (gotOk s p n)]) ∧ Read w br s (gotP s p n) w' := by
  unfold gotV gotOk gotP
  by_cases h : 8 * s.size < p + within n
  · simp only [if_pos h, decide_eq_true h]
    exact get_none br s p n w hr (by omega) hp h
  · simp only [if_neg h, decide_eq_false h]
    exact get_some br s p n w hr hs (by omega)
theorem numB_zero_all (l : List Bool) : numB l = 0 ↔ l.all (! ·) = true := by
  refine snocInd (P := fun l => numB l = 0 ↔ l.all (! ·) = true) (by decide) (fun l b ih => ?_) l
  rw [numB_snoc, List.all_append, Bool.and_eq_true, ← ih]
  cases b <;> simp <;> omega
/-- Whether nothing but filling is left. -/
def cleanB (b : List Bool) : Bool := b.all (! ·) && decide (b.length < 8)
theorem clean_any (br : Nat) (s : ByteArray) (p : Nat) (w : World) (hr : ReaderAt w br s p) (hs : s.size ≤ 68719476736) (hp : p ≤ 8 * s.size) :
    Calls Tryd.prog 78 #[.pointer (some ⟨br, 0, none⟩)] w fun e w' => e = .returned (.bool (cleanB ((unpack s.data.toList).drop p))) ∧ Below w.heap.size w w' := by
  have hlen : ((unpack s.data.toList).drop p).length = 8 * s.size - p := by rw [List.length_drop, unpack_length]; simp
  by_cases h : p + 8 ≤ 8 * s.size
  · refine (clean_big br s p w hr hs h).mono ?_
    rintro e w' ⟨rfl, n, rfl⟩
    refine ⟨?_, ⟨rfl, rfl, rfl, Nat.le_refl _, fun _ _ => rfl⟩⟩
    unfold cleanB
    rw [hlen, decide_eq_false (by omega), Bool.and_false]
  · refine (clean_small br s p w hr hs (by omega) hp).mono ?_
    rintro e w' ⟨rfl, hb⟩
    refine ⟨?_, hb⟩
    unfold cleanB
    rw [hlen, decide_eq_true (show 8 * s.size - p < 8 by omega), Bool.and_true]
    congr 2
    rw [Bool.eq_iff_iff, decide_eq_true_iff]
    exact numB_zero_all _
end Go.Proofs.YtdidengokijcjaaDoor.BitsW
/-
  TIMES AS BITS: THE SMALL FUNCTIONS, WALKED.
-/
namespace Go.Proofs.YtdidengokijcjaaDoor.StW
open Go.RowKit Go.Shelf BitsM BitsW StM
def clsCells : Array Value := #[.int .i64 0, .int .i64 0, .int .i64 0, .int .i64 (-63), .int .i64 64, .int .i64 7, .int .i64 (-255), .int .i64 256, .int .i64 9, .int .i64 (-2047), .int .i64 2048, .int .i64 12]
set_option maxRecDepth 20000 in
set_option maxHeartbeats 400000 in
theorem classes_any (w : World) : Calls Tryd.prog 87 #[] w fun e w' => e = .returned (.agg clsCells) ∧ Below w.heap.size w w' := by
  go_enter Tryd.func87, Tryd.ntmps87
  go_wp2
  exact bodyPost_ret (v := .agg clsCells) (by simp [results, Tryd.results87, go_sem, clsCells]) rfl ⟨rfl, (Below.refl _ _).alloc (Nat.le_refl _) _⟩
set_option maxRecDepth 20000 in
set_option maxHeartbeats 400000 in
theorem change_any (s : St) (t : Int) (w : World) : Calls Tryd.prog 85 #[.agg #[.int .i64 s.1, .int .i64 s.2.1, .int .i64 s.2.2], .int .i64 t] w fun e w' => e = .returned (.int .i64 (chg s t)) ∧ Below w.heap.size w w' := by
  obtain ⟨n, T, D⟩ := s
  go_enter Tryd.func85, Tryd.ntmps85
  go_wp2
  go_ret
  exact ⟨rfl, (Below.refl _ _).alloc (Nat.le_refl _) _⟩
set_option maxRecDepth 20000 in
set_option maxHeartbeats 400000 in
theorem after_any (s : St) (t : Int) (w : World) : Calls Tryd.prog 84 #[.agg #[.int .i64 s.1, .int .i64 s.2.1, .int .i64 s.2.2], .int .i64 t] w fun e w' => e = .returned (.agg #[.int .i64 (aftS s t).1, .int .i64 (aftS s t).2.1, .int .i64 (aftS s t).2.2]) ∧ Below w.heap.size w w' := by
  obtain ⟨n, T, D⟩ := s
  by_cases h0 : n = 0
  · subst h0
    go_enter Tryd.func84, Tryd.ntmps84
    go_wp2
    exact bodyPost_ret (v := .agg #[.int .i64 1, .int .i64 t, .int .i64 0]) (by simp [results, Tryd.results84, go_sem]) rfl ⟨rfl, ((Below.refl _ _).alloc (Nat.le_refl _) _).alloc (by simp) _⟩
  · have e : aftS (n, T, D) t = (wrap64 (n + 1), t, wrap64 (t - T)) := by unfold aftS; rw [if_neg h0]
    rw [e]
    have hb : (n == 0) = false := by simpa using h0
    go_enter Tryd.func84, Tryd.ntmps84
    go_wp2
    exact bodyPost_ret (v := .agg #[.int .i64 (wrap64 (n + 1)), .int .i64 t, .int .i64 (wrap64 (t - T))]) (by simp [results, Tryd.results84, go_sem]) rfl ⟨rfl, ((Below.refl _ _).alloc (Nat.le_refl _) _).alloc (by simp) _⟩
theorem info_cls : (Tryd.prog.info? 128).map (·.size) = some 12 := by kernel_rfl
/-- The classes, in a block of their own. -/
def ClsAt (W : World) (g : Nat) : Prop := W.heap[g]? = some (.cells clsCells 128 (0, 0))
theorem ClsAt.later {W W' : World} {g : Nat} (h : ClsAt W g) (hb : Below W.heap.size W W') : ClsAt W' g := (hb.block _ (Array.getElem?_eq_some_iff.1 h).1).trans h
theorem ClsAt.low {W : World} {g : Nat} (h : ClsAt W g) (i : Nat) (hi : i < 4) : W.cell? ⟨g, i * 3, none⟩ = some (.int .i64 (lowC i)) := by
  rw [cell_of_row W _ _ _ _ _ h]
  have : i = 0 ∨ i = 1 ∨ i = 2 ∨ i = 3 := by omega
  rcases this with rfl | rfl | rfl | rfl <;> rfl
def highC (i : Nat) : Int := if i = 1 then 64 else if i = 2 then 256 else if i = 3 then 2048 else 0
theorem ClsAt.high {W : World} {g : Nat} (h : ClsAt W g) (i : Nat) (hi : i < 4) : W.cell? ⟨g, i * 3 + 1, none⟩ = some (.int .i64 (highC i)) := by
  rw [cell_of_row W _ _ _ _ _ h]
  have : i = 0 ∨ i = 1 ∨ i = 2 ∨ i = 3 := by omega
  rcases this with rfl | rfl | rfl | rfl <;> rfl
theorem ClsAt.size {W : World} {g : Nat} (h : ClsAt W g) (i : Nat) (hi : i < 4) : W.cell? ⟨g, i * 3 + 2, none⟩ = some (.int .i64 (sizeC i : Nat)) := by
  rw [cell_of_row W _ _ _ _ _ h]
  have : i = 0 ∨ i = 1 ∨ i = 2 ∨ i = 3 := by omega
  rcases this with rfl | rfl | rfl | rfl <;> rfl
theorem cls_in (c : Int) : cls c = 4 ∨ lowC (cls c) ≤ c ∧ c ≤ highC (cls c) := by
  unfold cls
  by_cases h0 : c = 0
  · rw [if_pos h0]; right; rw [h0]; decide
  rw [if_neg h0]
  by_cases h1 : -63 ≤ c ∧ c ≤ 64
  · rw [if_pos h1]; exact .inr h1
  rw [if_neg h1]
  by_cases h2 : -255 ≤ c ∧ c ≤ 256
  · rw [if_pos h2]; exact .inr h2
  rw [if_neg h2]
  by_cases h3 : -2047 ≤ c ∧ c ≤ 2048
  · rw [if_pos h3]; exact .inr h3
  rw [if_neg h3]
  exact .inl rfl
theorem cls_out (c : Int) (i : Nat) (h : i < cls c) : c < lowC i ∨ highC i < c := by
  have h4 := cls_le c
  have hi : i = 0 ∨ i = 1 ∨ i = 2 ∨ i = 3 := by omega
  unfold cls at h
  split at h
  · omega
  rename_i h0
  split at h
  · rcases hi with rfl | rfl | rfl | rfl <;> (try omega)
    show c < 0 ∨ 0 < c; omega
  rename_i h1
  split at h
  · rcases hi with rfl | rfl | rfl | rfl <;> (try omega)
    · show c < 0 ∨ 0 < c; omega
    · show c < -63 ∨ 64 < c; omega
  rename_i h2
  split at h
  · rcases hi with rfl | rfl | rfl | rfl <;> (try omega)
    · show c < 0 ∨ 0 < c; omega
    · show c < -63 ∨ 64 < c; omega
    · show c < -255 ∨ 256 < c; omega
  rename_i h3
  rcases hi with rfl | rfl | rfl | rfl
  · show c < 0 ∨ 0 < c; omega
  · show c < -63 ∨ 64 < c; omega
  · show c < -255 ∨ 256 < c; omega
  · show c < -2047 ∨ 2048 < c; omega
set_option maxRecDepth 20000 in
set_option maxHeartbeats 1000000 in
theorem of_any (c : Int) (w : World) : Calls Tryd.prog 86 #[.int .i64 c] w fun e w' => e = .returned (.int .i64 (cls c : Nat)) ∧ Below w.heap.size w w' := by
  have h4 := cls_le c
  have HIN := Lib.hid (cls_in c)
  have HOUT := Lib.hid (fun i => cls_out c i)
  obtain ⟨k, hk⟩ : ∃ k, cls c = k := ⟨_, rfl⟩
  rw [hk] at HIN HOUT h4
  rw [hk]
  clear hk
  go_enter Tryd.func86, Tryd.ntmps86
  go_wp2_with fail
  refine (classes_any _).mono ?_
  rintro e w1 ⟨rfl, hb1⟩
  obtain ⟨cs, hcs⟩ : ∃ cs, clsCells = cs := ⟨_, rfl⟩
  rw [hcs]
  have hinf : (Tryd.prog.info? 128).map (·.size) = some cs.size := by rw [← hcs]; exact info_cls
  have HI := Lib.hid (show 12 = cs.size ∧ cs.all (·.oneCell') = true by rw [← hcs]; exact ⟨rfl, by kernel_rfl⟩)
  have HS := Lib.hid hcs
  clear hcs
  go_wp2_with (refine wpList_store_fresh rfl 128 _ _ rfl cs rfl rfl 128 _ hinf HI.out.1 HI.out.2 ?_; intro w2 hb2 hc2 hz2; clear hinf)
  have HC := Lib.hid (show ClsAt w2 w1.heap.size by unfold ClsAt; rw [HS.out]; exact hc2)
  have HB := Lib.hid (later hb1 hb2)
  clear hb1 hb2 hc2
  go_loop [4] (fun v4 => ∃ i : Nat, i ≤ k ∧ v4 = .int .i64 i) (fun v4 => 4 - (intOf v4).toNat)
  case atStart => exact ⟨0, Nat.zero_le _, rfl⟩
  case round =>
    obtain ⟨i, hi, rfl⟩ := hrel
    by_cases hlt : i < k
    · have i4 : i < 4 := by omega
      have c0 := HC.out.low i i4
      have c1 := HC.out.high i i4
      have hout := HOUT.out i hlt
      generalize lowC i = lo at *
      generalize highC i = hi' at *
      by_cases hl : c < lo
      · clear hout c1
        go_wp2
        go_round
        case rel => exact ⟨i + 1, by omega, by go_num⟩
        case measure => simp [intOf]; omega
      · have hh : hi' < c := by omega
        clear hout
        go_wp2
        go_round
        case rel => exact ⟨i + 1, by omega, by go_num⟩
        case measure => simp [intOf]; omega
    · obtain rfl : i = k := by omega
      rcases HIN.out with rfl | ⟨hl, hh⟩
      · go_wp2
        go_ret
        exact ⟨rfl, HB.out⟩
      · by_cases i4 : i < 4
        · have c0 := HC.out.low i i4
          have c1 := HC.out.high i i4
          generalize lowC i = lo at *
          generalize highC i = hi' at *
          have hl' : ¬ c < lo := by omega
          have hh' : ¬ hi' < c := by omega
          go_wp2
          go_ret
          exact ⟨rfl, HB.out⟩
        · go_wp2
          go_ret
          exact ⟨rfl, HB.out⟩
end Go.Proofs.YtdidengokijcjaaDoor.StW
/-
  A WRITER THAT IS PUT ONTO, BESIDE BLOCKS OF THE CALL'S OWN.
-/
namespace Go.Proofs.YtdidengokijcjaaDoor.BitsW
set_option linter.unusedVariables false
open Go.RowKit Go.Shelf BitsM
/-- Since w: the writer bw holds the bits b; the blocks L of the call's own stand; all else is as it was. -/
structure PM (w W : World) (bw : Nat) (rb0 : Option Nat) (b : List Bool) (L : List (Nat × Obj)) : Prop where
  wr : ∃ rb, WriterAt W bw rb b ∧ (rb = rb0 ∨ ∃ g, rb = some g ∧ w.heap.size ≤ g ∧ ∀ p ∈ L, p.1 ≠ g)
  own : ∀ p ∈ L, W.heap[p.1]? = some p.2 ∧ w.heap.size ≤ p.1
  old : ∀ k, k < w.heap.size → k ≠ bw → some k ≠ rb0 → W.heap[k]? = w.heap[k]?
  size : w.heap.size ≤ W.heap.size
  os : W.os = w.os
  tape : W.tape = w.tape
  output : W.output = w.output
  hbw : bw < w.heap.size
  hrb : ∀ g, rb0 = some g → g < w.heap.size
theorem PM.start {w : World} {bw : Nat} {rb0 : Option Nat} {b : List Bool} (h : WriterAt w bw rb0 b) : PM w w bw rb0 b [] :=
  ⟨⟨rb0, h, .inl rfl⟩, fun p hp => by simp at hp, fun _ _ _ _ => rfl, Nat.le_refl _, rfl, rfl, rfl, h.lt, h.rlt⟩
theorem PM.below {w W W' : World} {bw : Nat} {rb0 : Option Nat} {b : List Bool} {L : List (Nat × Obj)} (h : PM w W bw rb0 b L) (hb : Below W.heap.size W W') : PM w W' bw rb0 b L := by
  obtain ⟨rb, h1, h2⟩ := h.wr
  have hs := h.size
  exact ⟨⟨rb, h1.later hb, h2⟩, fun p hp => ⟨(hb.block _ (Array.getElem?_eq_some_iff.1 (h.own p hp).1).1).trans (h.own p hp).1, (h.own p hp).2⟩,
    fun k hk h3 h4 => (hb.block k (by omega)).trans (h.old k hk h3 h4), Nat.le_trans hs hb.size, hb.os.trans h.os, hb.tape.trans h.tape, hb.output.trans h.output, h.hbw, h.hrb⟩
theorem PM.new {w W W' : World} {bw : Nat} {rb0 : Option Nat} {b : List Bool} {L : List (Nat × Obj)} {o : Obj} (h : PM w W bw rb0 b L) (hb : Below W.heap.size W W') (hx : W'.heap[W.heap.size]? = some o) : PM w W' bw rb0 b ((W.heap.size, o) :: L) := by
  have h' := h.below hb
  obtain ⟨rb, h1, h2⟩ := h.wr
  refine ⟨⟨rb, h1.later hb, ?_⟩, fun p hp => ?_, h'.old, h'.size, h'.os, h'.tape, h'.output, h.hbw, h.hrb⟩
  · rcases h2 with h2 | ⟨g, h2, h3, h4⟩
    · exact .inl h2
    · refine .inr ⟨g, h2, h3, fun p hp => ?_⟩
      rcases List.mem_cons.1 hp with hp | hp
      · have := h1.rlt g h2
        rw [hp]; show W.heap.size ≠ g; omega
      · exact h4 p hp
  · rcases List.mem_cons.1 hp with hp | hp
    · rw [hp]; exact ⟨hx, h.size⟩
    · exact h'.own p hp
theorem PM.alloc {w W : World} {bw : Nat} {rb0 : Option Nat} {b : List Bool} {L : List (Nat × Obj)} (h : PM w W bw rb0 b L) (o : Obj) : PM w (W.alloc o) bw rb0 b ((W.heap.size, o) :: L) :=
  h.new ((Below.refl _ _).alloc (Nat.le_refl _) _) (heap_alloc_new W o)
theorem PM.drew {w W : World} {bw : Nat} {rb0 : Option Nat} {b : List Bool} {L : List (Nat × Obj)} (h : PM w W bw rb0 b L) : PM w W.drew bw rb0 b L := h.below ⟨rfl, rfl, rfl, Nat.le_refl _, fun _ _ => rfl⟩
theorem PM.drewN {w W : World} {bw : Nat} {rb0 : Option Nat} {b : List Bool} {L : List (Nat × Obj)} (h : PM w W bw rb0 b L) (n : Nat) : PM w (W.drewN n) bw rb0 b L := h.below ⟨rfl, rfl, rfl, Nat.le_refl _, fun _ _ => rfl⟩
theorem PM.step {w W W' : World} {bw : Nat} {rb0 rb : Option Nat} {b b' : List Bool} {L : List (Nat × Obj)} (h : PM w W bw rb0 b L) (h2 : rb = rb0 ∨ ∃ g, rb = some g ∧ w.heap.size ≤ g ∧ ∀ p ∈ L, p.1 ≠ g) (q : Wrote W bw rb b' W') : PM w W' bw rb0 b' L := by
  obtain ⟨rb', q1, q2⟩ := q.wr
  have hsz := h.size
  have hbw := h.hbw
  have nold : ∀ k, k < w.heap.size → some k ≠ rb0 → some k ≠ rb := by
    intro k hk h3 h4
    rcases h2 with h2 | ⟨g, h2, h5, -⟩
    · exact h3 (h4.trans h2)
    · rw [h2] at h4; cases h4; omega
  refine ⟨⟨rb', q1, ?_⟩, fun p hp => ?_, fun k hk h3 h4 => (q.old k (by omega) h3 (nold k hk h4)).trans (h.old k hk h3 h4), Nat.le_trans hsz q.size, q.os.trans h.os, q.tape.trans h.tape, q.output.trans h.output, hbw, h.hrb⟩
  · rcases q2 with q2 | ⟨g', q2, q3⟩
    · rw [q2]; exact h2
    · refine .inr ⟨g', q2, by omega, fun p hp => ?_⟩
      have := (Array.getElem?_eq_some_iff.1 (h.own p hp).1).1
      omega
  · have ho := h.own p hp
    have hlt := (Array.getElem?_eq_some_iff.1 ho.1).1
    refine ⟨(q.old p.1 hlt (by omega) ?_).trans ho.1, ho.2⟩
    intro e
    rcases h2 with h2 | ⟨g, h2, h5, h6⟩
    · have := h.hrb p.1 (h2 ▸ e.symm); omega
    · rw [h2] at e; exact h6 p hp (by injection e)
theorem PM.put {w W : World} {bw : Nat} {rb0 : Option Nat} {b : List Bool} {L : List (Nat × Obj)} (h : PM w W bw rb0 b L) (hl : b.length + 64 ≤ 1099511627776) (v n : Int) (hv0 : 0 ≤ v) (hv1 : v < 18446744073709551616) :
    Calls Tryd.prog 83 #[.pointer (some ⟨bw, 0, none⟩), .int .u64 v, .int .i64 n] W fun e W' => e = .returned (.tuple #[]) ∧ PM w W' bw rb0 (b ++ msb v.toNat (within n)) L := by
  obtain ⟨rb, h1, h2⟩ := h.wr
  refine (put_any bw rb b v n W h1 hl hv0 hv1).mono ?_
  rintro e W' ⟨rfl, q⟩
  exact ⟨rfl, h.step h2 q⟩
theorem PM.bytes {w W : World} {bw : Nat} {rb0 : Option Nat} {b : List Bool} {L : List (Nat × Obj)} (h : PM w W bw rb0 b L) : Calls Tryd.prog 73 #[.pointer (some ⟨bw, 0, none⟩)] W fun e W' => e = .returned (.string ⟨(pack b).toArray⟩) ∧ W = W' := by
  obtain ⟨rb, h1, -⟩ := h.wr
  exact bytes_any bw rb b W h1
theorem PM.setOne {w W : World} {bw : Nat} {rb0 : Option Nat} {b : List Bool} {k : Nat} {cs0 : Array Value} {t : TypeId} (h : PM w W bw rb0 b [(k, .cells cs0 t (0, 0))]) (cs : Array Value) : PM w (W.setRow k cs) bw rb0 b [(k, .cells cs t (0, 0))] := by
  obtain ⟨rb, h1, h2⟩ := h.wr
  have ho := h.own _ (List.mem_singleton.2 rfl)
  have hk2 : w.heap.size ≤ k := ho.2
  have hbw := h.hbw
  have hrk : ∀ g, rb = some g → g ≠ k := by
    intro g hg e
    rcases h2 with h2 | ⟨g', h2, h5, h6⟩
    · have := h.hrb g (h2 ▸ hg); omega
    · rw [h2] at hg; cases hg; exact h6 _ (List.mem_singleton.2 rfl) e.symm
  refine ⟨⟨rb, h1.of_blocks (fun cs' t fr hx => (setRow_other W k bw cs (by omega)).trans hx) (fun g hg cs' t fr hx => (setRow_other W k g cs (hrk g hg)).trans hx), ?_⟩, fun p hp => ?_, fun j hj h3 h4 => (setRow_other W k j cs (by omega)).trans (h.old j hj h3 h4), by simp; exact h.size, h.os, h.tape, h.output, h.hbw, h.hrb⟩
  · rcases h2 with h2 | ⟨g', h2, h5, h6⟩
    · exact .inl h2
    · refine .inr ⟨g', h2, h5, fun p hp => ?_⟩
      rw [List.mem_singleton.1 hp]
      exact h6 (k, .cells cs0 t (0, 0)) (List.mem_singleton.2 rfl)
  · rw [List.mem_singleton.1 hp]
    exact ⟨setRow_heap W k _ cs _ _ ho.1, hk2⟩
/-- What stood before the writer was made stands still. -/
theorem PM.since {w0 w W : World} {bw : Nat} {b : List Bool} {L : List (Nat × Obj)} (h : PM w W bw none b L) (hb : Below w0.heap.size w0 w) (hbw : w0.heap.size ≤ bw) : Below w0.heap.size w0 W := by
  refine hb.trans ⟨h.os, h.tape, h.output, h.size, fun k hk => h.old k (Nat.lt_of_lt_of_le hk hb.size) (by omega) (fun e => by cases e)⟩
theorem PM.setRow {w W : World} {bw : Nat} {rb0 : Option Nat} {b : List Bool} {L : List (Nat × Obj)} (h : PM w W bw rb0 b L) {k : Nat} {o : Obj} (hk : (k, o) ∈ L) (cs : Array Value) : PM w (W.setRow k cs) bw rb0 b [] := by
  obtain ⟨rb, h1, h2⟩ := h.wr
  have ho := h.own _ hk
  have hb1 : bw ≠ k := by have := h.hbw; have := ho.2; simp at this; omega
  have hrk : ∀ g, rb = some g → g ≠ k := by
    intro g hg e
    rcases h2 with h2 | ⟨g', h2, h5, h6⟩
    · have := h.hrb g (h2 ▸ hg); have := ho.2; simp at this; omega
    · rw [h2] at hg; cases hg; exact h6 _ hk e.symm
  refine ⟨⟨rb, h1.of_blocks (fun cs' t fr hx => (setRow_other W k bw cs hb1).trans hx) (fun g hg cs' t fr hx => (setRow_other W k g cs (hrk g hg)).trans hx), ?_⟩, fun p hp => by simp at hp, fun j hj h3 h4 => ?_, by simp; exact h.size, h.os, h.tape, h.output, h.hbw, h.hrb⟩
  · rcases h2 with h2 | ⟨g', h2, h5, h6⟩
    · exact .inl h2
    · exact .inr ⟨g', h2, h5, fun p hp => by simp at hp⟩
  · refine (setRow_other W k j cs ?_).trans (h.old j hj h3 h4)
    have := ho.2; simp at this; omega
theorem PM.wrote {w W : World} {bw : Nat} {rb0 : Option Nat} {b : List Bool} {L : List (Nat × Obj)} (h : PM w W bw rb0 b L) : Wrote w bw rb0 b W := by
  obtain ⟨rb, h1, h2⟩ := h.wr
  refine ⟨⟨rb, h1, ?_⟩, h.size, h.os, h.tape, h.output, h.old⟩
  rcases h2 with h2 | ⟨g', h2, h5, -⟩
  · exact .inl h2
  · exact .inr ⟨g', h2, h5⟩
theorem PM.at_ {w W : World} {bw : Nat} {rb0 : Option Nat} {b : List Bool} {L : List (Nat × Obj)} (h : PM w W bw rb0 b L) {k : Nat} {o : Obj} (hk : (k, o) ∈ L) : W.heap[k]? = some o := (h.own _ hk).1
/-- Whatever writes so onto a writer, for the one writer of the call's own. -/
theorem One.wrote {w W W' : World} {bw : Nat} {rb : Option Nat} {b b' : List Bool} (h : Below w.heap.size w W) (hb : w.heap.size ≤ bw) (hr : ∀ g, rb = some g → w.heap.size ≤ g) (q : Wrote W bw rb b' W') : One w W' bw b' := by
  obtain ⟨rb', q1, q2⟩ := q.wr
  have hold := h.size
  refine ⟨h.trans ⟨q.os, q.tape, q.output, q.size, fun k hk => q.old k (by omega) (by omega) (fun e => by have := hr k e.symm; omega)⟩, ⟨rb', q1, ?_⟩, hb⟩
  intro g hg
  rcases q2 with q2 | ⟨g', q2, q3⟩
  · exact hr g (q2 ▸ hg)
  · rw [q2] at hg; cases hg; omega
end Go.Proofs.YtdidengokijcjaaDoor.BitsW
/-
  TIMES AS BITS: Put, Cost, WALKED.
-/
namespace Go.Proofs.YtdidengokijcjaaDoor.StW
set_option linter.unusedVariables false
open Go.RowKit Go.Shelf BitsM BitsW StM
def StObj (s : St) : Obj := .cells #[.int .i64 s.1, .int .i64 s.2.1, .int .i64 s.2.2] 104 (0, 0)
theorem info_st : (Tryd.prog.info? 104).map (·.size) = some 3 := by kernel_rfl
def StAt (W : World) (g : Nat) (s : St) : Prop := W.heap[g]? = some (StObj s)
theorem StAt.c0 {W : World} {g : Nat} {s : St} (h : StAt W g s) : W.cell? ⟨g, 0, none⟩ = some (.int .i64 s.1) := by rw [cell_of_row W _ _ _ _ _ h]; rfl
theorem StAt.c1 {W : World} {g : Nat} {s : St} (h : StAt W g s) : W.cell? ⟨g, 1, none⟩ = some (.int .i64 s.2.1) := by rw [cell_of_row W _ _ _ _ _ h]; rfl
theorem StAt.c2 {W : World} {g : Nat} {s : St} (h : StAt W g s) : W.cell? ⟨g, 2, none⟩ = some (.int .i64 s.2.2) := by rw [cell_of_row W _ _ _ _ _ h]; rfl
theorem wrapu_eq (x : Int) : IntKind.u64.wrap x = ((u64 x : Nat) : Int) := by
  rw [u64_cast]; simp [IntKind.wrap, IntKind.bits, IntKind.signed]
theorem box_zero (w : World) (s : St) : (w.alloc (StObj s)).heap.size = w.heap.size + 1 := by simp
set_option maxRecDepth 20000 in
set_option maxHeartbeats 2000000 in
theorem put_first (bw : Nat) (rb0 : Option Nat) (b0 : List Bool) (s : St) (t : Int) (w : World) (hw : WriterAt w bw rb0 b0) (hb : b0.length + 200 ≤ 1099511627776) (h0 : s.1 = 0) :
    Calls Tryd.prog 72 #[.pointer (some ⟨bw, 0, none⟩), .agg #[.int .i64 s.1, .int .i64 s.2.1, .int .i64 s.2.2], .int .i64 t] w fun e w' => e = .returned (.agg #[.int .i64 (aftS s t).1, .int .i64 (aftS s t).2.1, .int .i64 (aftS s t).2.2]) ∧ Wrote w bw rb0 (b0 ++ putS s t) w' := by
  obtain ⟨N, T, D⟩ := s
  obtain rfl : N = 0 := h0
  have HP := Lib.hid (((PM.start hw).alloc (StObj (0, T, D))).alloc (StObj (0, 0, 0)))
  clear hw
  have hv := wrapu_eq t
  have e1 : putS (0, T, D) t = msb (u64 t) 64 := rfl
  have e2 : aftS (0, T, D) t = (1, t, 0) := rfl
  rw [e1, e2]
  have HA := Lib.hid (after_any (0, T, D) t)
  go_enter Tryd.func72, Tryd.ntmps72
  go_wp2_with fail
  refine (HP.out.put (by omega) ((u64 t : Nat) : Int) 64 (by omega) (by have := u64_lt t; omega)).mono ?_
  rintro e w1 ⟨rfl, p1⟩
  rw [Int.toNat_natCast, show within 64 = 64 from rfl] at p1
  have hbox : StAt w1 w.heap.size (0, T, D) := p1.at_ (by simp)
  have c0 := hbox.c0
  have c1 := hbox.c1
  have c2 := hbox.c2
  have HP1 := Lib.hid p1
  clear p1 hbox HP hv
  go_wp2_with fail
  refine (HA.out _).mono ?_
  rintro e w2 ⟨rfl, hb2⟩
  have HP2 := Lib.hid (HP1.out.below hb2)
  clear hb2 HP1 c0 c1 c2
  have hres : StAt w2 (w.heap.size + 1) (0, 0, 0) := HP2.out.at_ (by rw [box_zero]; simp)
  go_wp2_with (refine wpList_store_row rfl 104 _ _ rfl (w.heap.size + 1) #[.int .i64 1, .int .i64 t, .int .i64 0] rfl rfl 104 _ hres info_st rfl (by simp [Value.oneCell']) ?_)
  have hr2 : (w2.setRow (w.heap.size + 1) #[.int .i64 1, .int .i64 t, .int .i64 0]).heap[w.heap.size + 1]? = some (.cells #[.int .i64 1, .int .i64 t, .int .i64 0] 104 (0, 0)) := setRow_heap w2 _ _ _ _ _ hres
  exact bodyPost_ret (v := .agg #[.int .i64 1, .int .i64 t, .int .i64 0]) (results_cell_row (Tryd.results72) _ _ (w.heap.size + 1) 104 _ (0, 0) _ rfl hr2 Tryd.underlying104 rfl info_st) rfl ⟨rfl, (HP2.out.setRow (o := StObj (0, 0, 0)) (by rw [box_zero]; simp) _).wrote⟩
set_option maxRecDepth 20000 in
set_option maxHeartbeats 4000000 in
theorem put_more (bw : Nat) (rb0 : Option Nat) (b0 : List Bool) (s : St) (t : Int) (w : World) (hw : WriterAt w bw rb0 b0) (hb : b0.length + 200 ≤ 1099511627776) (h0 : ¬ s.1 = 0) :
    Calls Tryd.prog 72 #[.pointer (some ⟨bw, 0, none⟩), .agg #[.int .i64 s.1, .int .i64 s.2.1, .int .i64 s.2.2], .int .i64 t] w fun e w' => e = .returned (.agg #[.int .i64 (aftS s t).1, .int .i64 (aftS s t).2.1, .int .i64 (aftS s t).2.2]) ∧ Wrote w bw rb0 (b0 ++ putS s t) w' := by
  have HP := Lib.hid (((PM.start hw).alloc (StObj s)).alloc (StObj (0, 0, 0)))
  have hb0 : (s.1 == 0) = false := by simpa using h0
  have e1 : putS s t = codeC (chg s t) := by unfold putS; rw [if_neg h0]
  rw [e1]
  clear e1 hw h0
  have HA := Lib.hid (after_any s t)
  have HCH := Lib.hid (change_any s t)
  obtain ⟨c, hc⟩ : ∃ c, chg s t = c := ⟨_, rfl⟩
  obtain ⟨s', hs'⟩ : ∃ s', aftS s t = s' := ⟨_, rfl⟩
  rw [hc] at HCH
  rw [hs'] at HA
  rw [hc, hs']
  clear hc hs'
  obtain ⟨x, y, z⟩ := s'
  obtain ⟨N, T, D⟩ := s
  simp only [] at hb0 HA HCH ⊢
  go_enter Tryd.func72, Tryd.ntmps72
  go_wp2_with fail
  refine (HCH.out _).mono ?_
  rintro e w1 ⟨rfl, hb1⟩
  have HP1 := Lib.hid (HP.out.below hb1)
  clear HP hb1
  go_wp2_with fail
  have HOF := Lib.hid (of_any c)
  obtain ⟨k, hk⟩ : ∃ k, cls c = k := ⟨_, rfl⟩
  have hk4 := cls_le c
  have hcode : codeC c = headC k ++ msb (u64 (c - lowC k)) (sizeC k) := by rw [← hk]; rfl
  rw [hk] at HOF hk4
  have HCD := Lib.hid hcode
  clear hcode hk
  refine (HOF.out _).mono ?_
  rintro e w2 ⟨rfl, hb2⟩
  have HP2 := Lib.hid (HP1.out.below hb2)
  clear HP1 hb2 HOF
  go_wp2_with fail
  refine (classes_any _).mono ?_
  rintro e w3 ⟨rfl, hb3⟩
  have HP3 := Lib.hid (HP2.out.below hb3)
  clear HP2 hb3
  obtain ⟨cs, hcs⟩ : ∃ cs, clsCells = cs := ⟨_, rfl⟩
  rw [hcs]
  have hinf : (Tryd.prog.info? 128).map (·.size) = some cs.size := by rw [← hcs]; exact info_cls
  have HI := Lib.hid (show 12 = cs.size ∧ cs.all (·.oneCell') = true by rw [← hcs]; exact ⟨rfl, by kernel_rfl⟩)
  have HS := Lib.hid hcs
  clear hcs
  by_cases k4 : k = 4
  · subst k4
    have hv := wrapu_eq c
    go_wp2_with (refine wpList_store_fresh rfl 128 _ _ rfl cs rfl rfl 128 _ hinf HI.out.1 HI.out.2 ?_; intro w4 hb4 hc4 hz4; clear hinf)
    have HP4 := Lib.hid (HP3.out.new hb4 hc4)
    have HC4 := Lib.hid (show ClsAt w4 w3.heap.size by unfold ClsAt; rw [HS.out]; exact hc4)
    clear hb4 hc4 hz4 HP3
    generalize hg : w3.heap.size = g at *
    refine (HP4.out.put (by omega) 15 4 (by omega) (by omega)).mono ?_
    rintro e w5 ⟨rfl, p5⟩
    have HP5 := Lib.hid p5
    clear p5 HP4
    go_wp2_with fail
    refine (HP5.out.put (by rw [List.length_append, msb_length]; show b0.length + 4 + 64 ≤ _; omega) ((u64 c : Nat) : Int) 64 (by omega) (by have := u64_lt c; omega)).mono ?_
    rintro e w6 ⟨rfl, p6⟩
    rw [Int.toNat_natCast, List.append_assoc] at p6
    have ecode : b0 ++ (msb (Int.toNat 15) (within 4) ++ msb (u64 c) (within 64)) = b0 ++ codeC c := by
      rw [HCD.out]; rw [show c - lowC 4 = c by show c - 0 = c; omega]; rfl
    rw [ecode] at p6
    have hbox : StAt w6 w.heap.size (N, T, D) := p6.at_ (by simp)
    have c0 := hbox.c0
    have c1 := hbox.c1
    have c2 := hbox.c2
    have HP6 := Lib.hid p6
    clear p6 hbox HP5 hv ecode
    go_wp2_with fail
    refine (HA.out _).mono ?_
    rintro e w7 ⟨rfl, hb7⟩
    have HP7 := Lib.hid (HP6.out.below hb7)
    clear hb7 HP6 c0 c1 c2
    have hres : StAt w7 (w.heap.size + 1) (0, 0, 0) := HP7.out.at_ (by rw [box_zero]; simp)
    go_wp2_with (refine wpList_store_row rfl 104 _ _ rfl (w.heap.size + 1) #[.int .i64 x, .int .i64 y, .int .i64 z] rfl rfl 104 _ hres info_st rfl (by simp [Value.oneCell']) ?_)
    have hr2 : (w7.setRow (w.heap.size + 1) #[.int .i64 x, .int .i64 y, .int .i64 z]).heap[w.heap.size + 1]? = some (.cells #[.int .i64 x, .int .i64 y, .int .i64 z] 104 (0, 0)) := setRow_heap w7 _ _ _ _ _ hres
    exact bodyPost_ret (v := .agg #[.int .i64 x, .int .i64 y, .int .i64 z]) (results_cell_row (Tryd.results72) _ _ (w.heap.size + 1) 104 _ (0, 0) _ rfl hr2 Tryd.underlying104 rfl info_st) rfl ⟨rfl, (HP7.out.setRow (o := StObj (0, 0, 0)) (by rw [box_zero]; simp) _).wrote⟩
  · have k4' : k < 4 := by omega
    clear k4 hk4
    have hv := wrapu_eq (c - lowC k)
    have hv2 : IntKind.u64.wrap (wrap64 (c - lowC k)) = ((u64 (c - lowC k) : Nat) : Int) := by
      rw [wrapu_eq]; congr 1; unfold u64 wrap64; omega
    have hsh : IntKind.u64.wrap (IntKind.u64.wrap ((2 : Int) ^ (k + 1)) - 2) = ((2 ^ (k + 1) - 2 : Nat) : Int) ∧ msb (2 ^ (k + 1) - 2) (within ((k : Int) + 1)) = headC k ∧ 2 ^ (k + 1) - 2 < 100 ∧ (headC k).length ≤ 4 := by
      have : k = 0 ∨ k = 1 ∨ k = 2 ∨ k = 3 := by omega
      rcases this with rfl | rfl | rfl | rfl <;> decide
    obtain ⟨P, hP⟩ : ∃ P : Nat, 2 ^ (k + 1) - 2 = P := ⟨_, rfl⟩
    rw [hP] at hsh
    obtain ⟨hs1, hs2⟩ := hsh
    have HSH := Lib.hid hs2
    have hbk : ((k : Int) == 4) = false := by simp; omega
    clear hs2 hP
    go_wp2_with (refine wpList_store_fresh rfl 128 _ _ rfl cs rfl rfl 128 _ hinf HI.out.1 HI.out.2 ?_; intro w4 hb4 hc4 hz4; clear hinf)
    have HP4 := Lib.hid (HP3.out.new hb4 hc4)
    have HC4 := Lib.hid (show ClsAt w4 w3.heap.size by unfold ClsAt; rw [HS.out]; exact hc4)
    clear hb4 hc4 hz4 HP3
    generalize hg : w3.heap.size = g at *
    refine (HP4.out.put (by omega) (P : Int) ((k : Int) + 1) (by omega) (by have := HSH.out.2.1; omega)).mono ?_
    rintro e w5 ⟨rfl, p5⟩
    rw [Int.toNat_natCast, HSH.out.1] at p5
    have hcl : ClsAt w5 g := by
      unfold ClsAt; rw [HS.out]
      exact p5.at_ (by simp)
    have HP5 := Lib.hid p5
    have c0 := hcl.low k k4'
    have c1 := hcl.size k k4'
    clear p5 HP4 hcl hs1
    have hsz : sizeC k ≤ 64 := sizeC_le k
    have hu := u64_lt (c - lowC k)
    obtain ⟨lo, hlo⟩ : ∃ lo, lowC k = lo := ⟨_, rfl⟩
    obtain ⟨sz, hszz⟩ : ∃ sz, sizeC k = sz := ⟨_, rfl⟩
    rw [hlo] at hv hv2 c0 HCD hu
    rw [hszz] at c1 HCD hsz
    clear hlo hszz
    obtain ⟨U, hU⟩ : ∃ U, u64 (c - lo) = U := ⟨_, rfl⟩
    rw [hU] at hv hv2 HCD hu
    clear hU
    go_wp2_with fail
    have i0 : (0 : Int) ≤ (k : Int) := by omega
    have i1 : (k : Int) < 4 := by omega
    go_still_tail 12, (by kernel_rfl)
    go_wp2_with fail
    rw [hv2]
    refine (HP5.out.drew.put (by rw [List.length_append]; have := HSH.out.2.2; omega) (U : Int) (sz : Int) (by omega) (by omega)).mono ?_
    rintro e w6 ⟨rfl, p6⟩
    rw [Int.toNat_natCast, List.append_assoc, show within (sz : Int) = sz by unfold within; omega, ← HCD.out] at p6
    have hbox : StAt w6 w.heap.size (N, T, D) := p6.at_ (by simp)
    have d0 := hbox.c0
    have d1 := hbox.c1
    have d2 := hbox.c2
    have HP6 := Lib.hid p6
    clear p6 hbox HP5 hv hv2 c0 c1
    go_wp2_with fail
    refine (HA.out _).mono ?_
    rintro e w7 ⟨rfl, hb7⟩
    have HP7 := Lib.hid (HP6.out.below hb7)
    clear hb7 HP6 d0 d1 d2
    have hres : StAt w7 (w.heap.size + 1) (0, 0, 0) := HP7.out.at_ (by rw [box_zero]; simp)
    go_wp2_with (refine wpList_store_row rfl 104 _ _ rfl (w.heap.size + 1) #[.int .i64 x, .int .i64 y, .int .i64 z] rfl rfl 104 _ hres info_st rfl (by simp [Value.oneCell']) ?_)
    have hr2 : (w7.setRow (w.heap.size + 1) #[.int .i64 x, .int .i64 y, .int .i64 z]).heap[w.heap.size + 1]? = some (.cells #[.int .i64 x, .int .i64 y, .int .i64 z] 104 (0, 0)) := setRow_heap w7 _ _ _ _ _ hres
    exact bodyPost_ret (v := .agg #[.int .i64 x, .int .i64 y, .int .i64 z]) (results_cell_row (Tryd.results72) _ _ (w.heap.size + 1) 104 _ (0, 0) _ rfl hr2 Tryd.underlying104 rfl info_st) rfl ⟨rfl, (HP7.out.setRow (o := StObj (0, 0, 0)) (by rw [box_zero]; simp) _).wrote⟩
/-- A time is put. -/
theorem put_time (bw : Nat) (rb0 : Option Nat) (b0 : List Bool) (s : St) (t : Int) (w : World) (hw : WriterAt w bw rb0 b0) (hb : b0.length + 200 ≤ 1099511627776) :
    Calls Tryd.prog 72 #[.pointer (some ⟨bw, 0, none⟩), .agg #[.int .i64 s.1, .int .i64 s.2.1, .int .i64 s.2.2], .int .i64 t] w fun e w' => e = .returned (.agg #[.int .i64 (aftS s t).1, .int .i64 (aftS s t).2.1, .int .i64 (aftS s t).2.2]) ∧ Wrote w bw rb0 (b0 ++ putS s t) w' := by
  by_cases h0 : s.1 = 0
  · exact put_first bw rb0 b0 s t w hw hb h0
  · exact put_more bw rb0 b0 s t w hw hb h0
/-- What a time costs. -/
def costN (s : St) (t : Int) : Nat := (putS s t).length
theorem cost_four (c : Int) (h : cls c = 4) : (codeC c).length = 68 := by rw [codeC_len, h]; rfl
end Go.Proofs.YtdidengokijcjaaDoor.StW
