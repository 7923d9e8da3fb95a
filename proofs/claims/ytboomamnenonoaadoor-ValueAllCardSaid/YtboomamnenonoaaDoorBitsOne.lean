/-
  WRITERS AND READERS OF THE CALL'S OWN, SINCE IT BEGAN: one writer, two writers, one reader.
-/
import Derived.Test.YtboomamnenonoaaDoorBitsPut
import Derived.Test.YtboomamnenonoaaDoorBitsMore
import Derived.Test.YtboomamnenonoaaDoorBitsRef
namespace Go.Proofs.YtboomamnenonoaaDoor.BitsW
open Go.RowKit Go.Shelf BitsM
theorem WriterAt.later {W W' : World} {bw : Nat} {rb : Option Nat} {b : List Bool} (h : WriterAt W bw rb b) (hb : Below W.heap.size W W') : WriterAt W' bw rb b := by
  refine h.of_blocks (fun cs t fr hx => (hb.block _ (Array.getElem?_eq_some_iff.1 hx).1).trans hx) (fun g _ cs t fr hx => (hb.block _ (Array.getElem?_eq_some_iff.1 hx).1).trans hx)
theorem ReaderAt.later {W W' : World} {br : Nat} {s : ByteArray} {p : Nat} (h : ReaderAt W br s p) (hb : Below W.heap.size W W') : ReaderAt W' br s p := (hb.block _ (Array.getElem?_eq_some_iff.1 h).1).trans h
theorem WriterAt.lt {W : World} {bw : Nat} {rb : Option Nat} {b : List Bool} (h : WriterAt W bw rb b) : bw < W.heap.size := by
  obtain ⟨v, hb, -⟩ := h
  exact (Array.getElem?_eq_some_iff.1 hb).1
theorem WriterAt.rlt {W : World} {bw : Nat} {rb : Option Nat} {b : List Bool} (h : WriterAt W bw rb b) : ∀ g, rb = some g → g < W.heap.size := by
  obtain ⟨v, -, hr, -, ho⟩ := h
  intro g hg
  exact (ho.lt g (hr.trans hg)).2
theorem WriterAt.ne {W : World} {bw : Nat} {rb : Option Nat} {b : List Bool} (h : WriterAt W bw rb b) : rb ≠ some bw := by
  obtain ⟨v, -, -, hn, -⟩ := h
  exact hn
/-- Since w: a writer in bw of the call's own, with the bits b. -/
structure One (w W : World) (bw : Nat) (b : List Bool) : Prop where
  below : Below w.heap.size w W
  wr : ∃ rb, WriterAt W bw rb b ∧ ∀ g, rb = some g → w.heap.size ≤ g
  hb : w.heap.size ≤ bw
theorem One.later {w W W' : World} {bw : Nat} {b : List Bool} (h : One w W bw b) (hb : Below W.heap.size W W') : One w W' bw b := by
  obtain ⟨rb, h1, h2⟩ := h.wr
  exact ⟨h.below.trans (hb.mono h.below.size), ⟨rb, h1.later hb, h2⟩, h.hb⟩
theorem One.drew {w W : World} {bw : Nat} {b : List Bool} (h : One w W bw b) : One w W.drew bw b := h.later ⟨rfl, rfl, rfl, Nat.le_refl _, fun _ _ => rfl⟩
theorem One.drewN {w W : World} {bw : Nat} {b : List Bool} (h : One w W bw b) (n : Nat) : One w (W.drewN n) bw b := h.later ⟨rfl, rfl, rfl, Nat.le_refl _, fun _ _ => rfl⟩
theorem One.since {w0 w W : World} {bw : Nat} {b : List Bool} (h : One w W bw b) (hb : Below w0.heap.size w0 w) : One w0 W bw b := by
  obtain ⟨rb, h1, h2⟩ := h.wr
  have := hb.size
  exact ⟨hb.trans (h.below.mono hb.size), ⟨rb, h1, fun g hg => by have := h2 g hg; omega⟩, by have := h.hb; omega⟩
theorem One.new {w W : World} (h : WriterAt W w.heap.size none []) (hb : Below w.heap.size w W) : One w W w.heap.size [] := ⟨hb, ⟨none, h, fun g h => by cases h⟩, Nat.le_refl _⟩
theorem One.lt {w W : World} {bw : Nat} {b : List Bool} (h : One w W bw b) : bw < W.heap.size := by
  obtain ⟨rb, h1, -⟩ := h.wr
  exact h1.lt
theorem One.put {w W : World} {bw : Nat} {b : List Bool} (h : One w W bw b) (hl : b.length + 64 ≤ 1099511627776) (v n : Int) (hv0 : 0 ≤ v) (hv1 : v < 18446744073709551616) :
    Calls Tryd.prog 31 #[.pointer (some ⟨bw, 0, none⟩), .int .u64 v, .int .i64 n] W fun e W' => e = .returned (.tuple #[]) ∧ One w W' bw (b ++ msb v.toNat (within n)) := by
  obtain ⟨rb, h1, h3⟩ := h.wr
  refine (put_any bw rb b v n W h1 hl hv0 hv1).mono ?_
  rintro e W' ⟨rfl, q⟩
  refine ⟨rfl, ?_⟩
  obtain ⟨rb', q1, q2⟩ := q.wr
  have hold := h.below.size
  refine ⟨h.below.trans ⟨q.os, q.tape, q.output, q.size, fun k hk => q.old k (by omega) (by have := h.hb; omega) (fun e => by have := h3 k e.symm; omega)⟩, ⟨rb', q1, ?_⟩, h.hb⟩
  intro g hg
  rcases q2 with q2 | ⟨g', q2, q3⟩
  · exact h3 g (q2 ▸ hg)
  · rw [q2] at hg; cases hg; omega
theorem One.len {w W : World} {bw : Nat} {b : List Bool} (h : One w W bw b) : Calls Tryd.prog 16 #[.pointer (some ⟨bw, 0, none⟩)] W fun e W' => e = .returned (.int .i64 (b.length : Int)) ∧ W = W' := by
  obtain ⟨rb, h1, -⟩ := h.wr
  exact len_any bw rb b W h1
theorem One.bytes {w W : World} {bw : Nat} {b : List Bool} (h : One w W bw b) : Calls Tryd.prog 27 #[.pointer (some ⟨bw, 0, none⟩)] W fun e W' => e = .returned (.string ⟨(pack b).toArray⟩) ∧ W = W' := by
  obtain ⟨rb, h1, -⟩ := h.wr
  exact bytes_any bw rb b W h1
/-- Since w: two writers of the call's own. -/
structure Pair (w W : World) (ba bb : Nat) (x y : List Bool) : Prop where
  below : Below w.heap.size w W
  wr : ∃ ra rb, WriterAt W ba ra x ∧ WriterAt W bb rb y ∧ ra ≠ some bb ∧ rb ≠ some ba ∧ (∀ g, ra = some g → rb ≠ some g) ∧ (∀ g, ra = some g → w.heap.size ≤ g) ∧ (∀ g, rb = some g → w.heap.size ≤ g)
  ne : ba ≠ bb
  ha : w.heap.size ≤ ba
  hb : w.heap.size ≤ bb
theorem Pair.symm {w W : World} {ba bb : Nat} {x y : List Bool} (h : Pair w W ba bb x y) : Pair w W bb ba y x := by
  obtain ⟨ra, rb, h1, h2, h3, h4, h5, h6, h7⟩ := h.wr
  exact ⟨h.below, ⟨rb, ra, h2, h1, h4, h3, fun g hg e => h5 g e hg, h7, h6⟩, fun e => h.ne e.symm, h.hb, h.ha⟩
theorem Pair.later {w W W' : World} {ba bb : Nat} {x y : List Bool} (h : Pair w W ba bb x y) (hb : Below W.heap.size W W') : Pair w W' ba bb x y := by
  obtain ⟨ra, rb, h1, h2, rest⟩ := h.wr
  exact ⟨h.below.trans (hb.mono h.below.size), ⟨ra, rb, h1.later hb, h2.later hb, rest⟩, h.ne, h.ha, h.hb⟩
theorem Pair.one {w W : World} {ba bb : Nat} {x y : List Bool} (h : Pair w W ba bb x y) : One w W ba x := by
  obtain ⟨ra, rb, h1, h2, h3, h4, h5, h6, h7⟩ := h.wr
  exact ⟨h.below, ⟨ra, h1, h6⟩, h.ha⟩
theorem Pair.two {w W : World} {ba bb : Nat} {x y : List Bool} (h : Pair w W ba bb x y) : One w W bb y := h.symm.one
theorem Pair.put {w W : World} {ba bb : Nat} {x y : List Bool} (h : Pair w W ba bb x y) (hl : x.length + 64 ≤ 1099511627776) (v n : Int) (hv0 : 0 ≤ v) (hv1 : v < 18446744073709551616) :
    Calls Tryd.prog 31 #[.pointer (some ⟨ba, 0, none⟩), .int .u64 v, .int .i64 n] W fun e W' => e = .returned (.tuple #[]) ∧ Pair w W' ba bb (x ++ msb v.toNat (within n)) y := by
  obtain ⟨ra, rb, h1, h2, h3, h4, h5, h6, h7⟩ := h.wr
  refine (put_any ba ra x v n W h1 hl hv0 hv1).mono ?_
  rintro e W' ⟨rfl, q⟩
  refine ⟨rfl, ?_⟩
  obtain ⟨ra', q1, q2⟩ := q.wr
  have hold := h.below.size
  have hbb := h2.lt
  have keepb : WriterAt W' bb rb y := by
    refine h2.of_blocks (fun cs t fr hx => (q.old _ hbb (Ne.symm h.ne) (fun e => h3 e.symm)).trans hx) (fun g hg cs t fr hx => (q.old g (h2.rlt g hg) ?_ ?_).trans hx)
    · intro e; subst e; exact h4 hg
    · intro e; exact h5 g e.symm hg
  refine ⟨h.below.trans ⟨q.os, q.tape, q.output, q.size, fun k hk => q.old k (by omega) (by have := h.ha; omega) (fun e => by have := h6 k e.symm; omega)⟩, ⟨ra', rb, q1, keepb, ?_, h4, ?_, ?_, h7⟩, h.ne, h.ha, h.hb⟩
  · rcases q2 with q2 | ⟨g', q2, q3⟩
    · rw [q2]; exact h3
    · rw [q2]; intro e; cases e; omega
  · intro g hg hg2
    rcases q2 with q2 | ⟨g', q2, q3⟩
    · exact h5 g (q2 ▸ hg) hg2
    · rw [q2] at hg; cases hg; have := h2.rlt _ hg2; omega
  · intro g hg
    rcases q2 with q2 | ⟨g', q2, q3⟩
    · exact h6 g (q2 ▸ hg)
    · rw [q2] at hg; cases hg; omega
theorem Pair.put2 {w W : World} {ba bb : Nat} {x y : List Bool} (h : Pair w W ba bb x y) (hl : y.length + 64 ≤ 1099511627776) (v n : Int) (hv0 : 0 ≤ v) (hv1 : v < 18446744073709551616) :
    Calls Tryd.prog 31 #[.pointer (some ⟨bb, 0, none⟩), .int .u64 v, .int .i64 n] W fun e W' => e = .returned (.tuple #[]) ∧ Pair w W' ba bb x (y ++ msb v.toNat (within n)) :=
  (h.symm.put hl v n hv0 hv1).mono fun _ _ ⟨he, hp⟩ => ⟨he, hp.symm⟩
theorem One.second {w W W' : World} {ba : Nat} {x : List Bool} (h : One w W ba x) (hw : WriterAt W' W.heap.size none []) (hb : Below W.heap.size W W') : Pair w W' ba W.heap.size x [] := by
  obtain ⟨ra, h1, h2⟩ := h.wr
  have h3 := h1.lt
  exact ⟨h.below.trans (hb.mono h.below.size), ⟨ra, none, h1.later hb, hw, fun e => by have := h1.rlt _ e; omega, (fun e => by cases e), (fun g _ e => by cases e), h2, (fun g e => by cases e)⟩, by omega, h.hb, h.below.size⟩
/-- Since w: a reader of the call's own. -/
structure Rd (w W : World) (br : Nat) (s : ByteArray) (p : Nat) : Prop where
  below : Below w.heap.size w W
  rd : ReaderAt W br s p
  hr : w.heap.size ≤ br
theorem Rd.later {w W W' : World} {br : Nat} {s : ByteArray} {p : Nat} (h : Rd w W br s p) (hb : Below W.heap.size W W') : Rd w W' br s p := ⟨h.below.trans (hb.mono h.below.size), h.rd.later hb, h.hr⟩
theorem Rd.since {w0 w W : World} {br : Nat} {s : ByteArray} {p : Nat} (h : Rd w W br s p) (hb : Below w0.heap.size w0 w) : Rd w0 W br s p := ⟨hb.trans (h.below.mono hb.size), h.rd, by have := hb.size; have := h.hr; omega⟩
theorem Rd.new {w W : World} {s : ByteArray} (h : ReaderAt W w.heap.size s 0) (hb : Below w.heap.size w W) : Rd w W w.heap.size s 0 := ⟨hb, h, Nat.le_refl _⟩
theorem Rd.got {w W W' : World} {br : Nat} {s : ByteArray} {p q : Nat} (h : Rd w W br s p) (hr : Read W br s q W') : Rd w W' br s q :=
  ⟨h.below.trans ⟨hr.os, hr.tape, hr.output, hr.size, fun k hk => hr.old k (Nat.lt_of_lt_of_le hk h.below.size) (by have := h.hr; omega)⟩, hr.rd, h.hr⟩
/-- What a get tells: the number, and whether there are as many bits. -/
def gotV (s : ByteArray) (p : Nat) (n : Int) : Nat := if 8 * s.size < p + within n then 0 else numB (((unpack s.data.toList).drop p).take (within n))
def gotP (s : ByteArray) (p : Nat) (n : Int) : Nat := if 8 * s.size < p + within n then p else p + within n
def gotOk (s : ByteArray) (p : Nat) (n : Int) : Bool := !decide (8 * s.size < p + within n)
theorem gotP_le {s : ByteArray} {p : Nat} {n : Int} (h : p ≤ 8 * s.size) : gotP s p n ≤ 8 * s.size := by
  unfold gotP; split <;> omega
theorem get_any (br : Nat) (s : ByteArray) (p : Nat) (n : Int) (w : World) (hr : ReaderAt w br s p) (hs : s.size ≤ 68719476736) (hp : p ≤ 8 * s.size) :
    Calls Tryd.prog 34 #[.pointer (some ⟨br, 0, none⟩), .int .i64 n] w fun e w' => e = .returned (.tuple #[.int .u64 (gotV s p n : Int), .bool (gotOk s p n)]) ∧ Read w br s (gotP s p n) w' := by
  unfold gotV gotOk gotP
  by_cases h : 8 * s.size < p + within n
  · simp only [if_pos h, decide_eq_true h]
    exact get_none br s p n w hr (by omega) hp h
  · simp only [if_neg h, decide_eq_false h]
    exact get_some br s p n w hr hs (by omega)
theorem numB_zero_all (l : List Bool) : numB l = 0 ↔ l.all (! ·) = true := by
  refine snocInd (P := fun l => numB l = 0 ↔ l.all (! ·) = true) (by decide) (fun l b ih => ?_) l
  rw [numB_snoc, List.all_append, Bool.and_eq_true, ← ih]
  cases b <;> simp <;> omega
/-- Whether nothing but filling is left. -/
def cleanB (b : List Bool) : Bool := b.all (! ·) && decide (b.length < 8)
theorem clean_any (br : Nat) (s : ByteArray) (p : Nat) (w : World) (hr : ReaderAt w br s p) (hs : s.size ≤ 68719476736) (hp : p ≤ 8 * s.size) :
    Calls Tryd.prog 22 #[.pointer (some ⟨br, 0, none⟩)] w fun e w' => e = .returned (.bool (cleanB ((unpack s.data.toList).drop p))) ∧ Below w.heap.size w w' := by
  have hlen : ((unpack s.data.toList).drop p).length = 8 * s.size - p := by rw [List.length_drop, unpack_length]; simp
  by_cases h : p + 8 ≤ 8 * s.size
  · refine (clean_big br s p w hr hs h).mono ?_
    rintro e w' ⟨rfl, n, rfl⟩
    refine ⟨?_, ⟨rfl, rfl, rfl, Nat.le_refl _, fun _ _ => rfl⟩⟩
    unfold cleanB
    rw [hlen, decide_eq_false (by omega), Bool.and_false]
  · refine (clean_small br s p w hr hs (by omega) hp).mono ?_
    rintro e w' ⟨rfl, hb⟩
    refine ⟨?_, hb⟩
    unfold cleanB
    rw [hlen, decide_eq_true (show 8 * s.size - p < 8 by omega), Bool.and_true]
    congr 2
    rw [Bool.eq_iff_iff, decide_eq_true_iff]
    exact numB_zero_all _
end Go.Proofs.YtboomamnenonoaaDoor.BitsW
