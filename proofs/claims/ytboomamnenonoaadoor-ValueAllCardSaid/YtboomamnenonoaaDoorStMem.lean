/-
  A WRITER THAT IS PUT ONTO, BESIDE BLOCKS OF THE CALL'S OWN.
-/
import Derived.Test.YtboomamnenonoaaDoorBitsOne
namespace Go.Proofs.YtboomamnenonoaaDoor.BitsW
set_option linter.unusedVariables false
open Go.RowKit Go.Shelf BitsM
/-- Since w: the writer bw holds the bits b; the blocks L of the call's own stand; all else is as it was. -/
structure PM (w W : World) (bw : Nat) (rb0 : Option Nat) (b : List Bool) (L : List (Nat × Obj)) : Prop where
  wr : ∃ rb, WriterAt W bw rb b ∧ (rb = rb0 ∨ ∃ g, rb = some g ∧ w.heap.size ≤ g ∧ ∀ p ∈ L, p.1 ≠ g)
  own : ∀ p ∈ L, W.heap[p.1]? = some p.2 ∧ w.heap.size ≤ p.1
  old : ∀ k, k < w.heap.size → k ≠ bw → some k ≠ rb0 → W.heap[k]? = w.heap[k]?
  size : w.heap.size ≤ W.heap.size
  os : W.os = w.os
  tape : W.tape = w.tape
  output : W.output = w.output
  hbw : bw < w.heap.size
  hrb : ∀ g, rb0 = some g → g < w.heap.size
theorem PM.start {w : World} {bw : Nat} {rb0 : Option Nat} {b : List Bool} (h : WriterAt w bw rb0 b) : PM w w bw rb0 b [] :=
  ⟨⟨rb0, h, .inl rfl⟩, fun p hp => by simp at hp, fun _ _ _ _ => rfl, Nat.le_refl _, rfl, rfl, rfl, h.lt, h.rlt⟩
theorem PM.below {w W W' : World} {bw : Nat} {rb0 : Option Nat} {b : List Bool} {L : List (Nat × Obj)} (h : PM w W bw rb0 b L) (hb : Below W.heap.size W W') : PM w W' bw rb0 b L := by
  obtain ⟨rb, h1, h2⟩ := h.wr
  have hs := h.size
  exact ⟨⟨rb, h1.later hb, h2⟩, fun p hp => ⟨(hb.block _ (Array.getElem?_eq_some_iff.1 (h.own p hp).1).1).trans (h.own p hp).1, (h.own p hp).2⟩,
    fun k hk h3 h4 => (hb.block k (by omega)).trans (h.old k hk h3 h4), Nat.le_trans hs hb.size, hb.os.trans h.os, hb.tape.trans h.tape, hb.output.trans h.output, h.hbw, h.hrb⟩
theorem PM.new {w W W' : World} {bw : Nat} {rb0 : Option Nat} {b : List Bool} {L : List (Nat × Obj)} {o : Obj} (h : PM w W bw rb0 b L) (hb : Below W.heap.size W W') (hx : W'.heap[W.heap.size]? = some o) : PM w W' bw rb0 b ((W.heap.size, o) :: L) := by
  have h' := h.below hb
  obtain ⟨rb, h1, h2⟩ := h.wr
  refine ⟨⟨rb, h1.later hb, ?_⟩, fun p hp => ?_, h'.old, h'.size, h'.os, h'.tape, h'.output, h.hbw, h.hrb⟩
  · rcases h2 with h2 | ⟨g, h2, h3, h4⟩
    · exact .inl h2
    · refine .inr ⟨g, h2, h3, fun p hp => ?_⟩
      rcases List.mem_cons.1 hp with hp | hp
      · have := h1.rlt g h2
        rw [hp]; show W.heap.size ≠ g; omega
      · exact h4 p hp
  · rcases List.mem_cons.1 hp with hp | hp
    · rw [hp]; exact ⟨hx, h.size⟩
    · exact h'.own p hp
theorem PM.alloc {w W : World} {bw : Nat} {rb0 : Option Nat} {b : List Bool} {L : List (Nat × Obj)} (h : PM w W bw rb0 b L) (o : Obj) : PM w (W.alloc o) bw rb0 b ((W.heap.size, o) :: L) :=
  h.new ((Below.refl _ _).alloc (Nat.le_refl _) _) (heap_alloc_new W o)
theorem PM.drew {w W : World} {bw : Nat} {rb0 : Option Nat} {b : List Bool} {L : List (Nat × Obj)} (h : PM w W bw rb0 b L) : PM w W.drew bw rb0 b L := h.below ⟨rfl, rfl, rfl, Nat.le_refl _, fun _ _ => rfl⟩
theorem PM.drewN {w W : World} {bw : Nat} {rb0 : Option Nat} {b : List Bool} {L : List (Nat × Obj)} (h : PM w W bw rb0 b L) (n : Nat) : PM w (W.drewN n) bw rb0 b L := h.below ⟨rfl, rfl, rfl, Nat.le_refl _, fun _ _ => rfl⟩
theorem PM.step {w W W' : World} {bw : Nat} {rb0 rb : Option Nat} {b b' : List Bool} {L : List (Nat × Obj)} (h : PM w W bw rb0 b L) (h2 : rb = rb0 ∨ ∃ g, rb = some g ∧ w.heap.size ≤ g ∧ ∀ p ∈ L, p.1 ≠ g) (q : Wrote W bw rb b' W') : PM w W' bw rb0 b' L := by
  obtain ⟨rb', q1, q2⟩ := q.wr
  have hsz := h.size
  have hbw := h.hbw
  have nold : ∀ k, k < w.heap.size → some k ≠ rb0 → some k ≠ rb := by
    intro k hk h3 h4
    rcases h2 with h2 | ⟨g, h2, h5, -⟩
    · exact h3 (h4.trans h2)
    · rw [h2] at h4; cases h4; omega
  refine ⟨⟨rb', q1, ?_⟩, fun p hp => ?_, fun k hk h3 h4 => (q.old k (by omega) h3 (nold k hk h4)).trans (h.old k hk h3 h4), Nat.le_trans hsz q.size, q.os.trans h.os, q.tape.trans h.tape, q.output.trans h.output, hbw, h.hrb⟩
  · rcases q2 with q2 | ⟨g', q2, q3⟩
    · rw [q2]; exact h2
    · refine .inr ⟨g', q2, by omega, fun p hp => ?_⟩
      have := (Array.getElem?_eq_some_iff.1 (h.own p hp).1).1
      omega
  · have ho := h.own p hp
    have hlt := (Array.getElem?_eq_some_iff.1 ho.1).1
    refine ⟨(q.old p.1 hlt (by omega) ?_).trans ho.1, ho.2⟩
    intro e
    rcases h2 with h2 | ⟨g, h2, h5, h6⟩
    · have := h.hrb p.1 (h2 ▸ e.symm); omega
    · rw [h2] at e; exact h6 p hp (by injection e)
theorem PM.put {w W : World} {bw : Nat} {rb0 : Option Nat} {b : List Bool} {L : List (Nat × Obj)} (h : PM w W bw rb0 b L) (hl : b.length + 64 ≤ 1099511627776) (v n : Int) (hv0 : 0 ≤ v) (hv1 : v < 18446744073709551616) :
    Calls Tryd.prog 31 #[.pointer (some ⟨bw, 0, none⟩), .int .u64 v, .int .i64 n] W fun e W' => e = .returned (.tuple #[]) ∧ PM w W' bw rb0 (b ++ msb v.toNat (within n)) L := by
  obtain ⟨rb, h1, h2⟩ := h.wr
  refine (put_any bw rb b v n W h1 hl hv0 hv1).mono ?_
  rintro e W' ⟨rfl, q⟩
  exact ⟨rfl, h.step h2 q⟩
theorem PM.bytes {w W : World} {bw : Nat} {rb0 : Option Nat} {b : List Bool} {L : List (Nat × Obj)} (h : PM w W bw rb0 b L) : Calls Tryd.prog 27 #[.pointer (some ⟨bw, 0, none⟩)] W fun e W' => e = .returned (.string ⟨(pack b).toArray⟩) ∧ W = W' := by
  obtain ⟨rb, h1, -⟩ := h.wr
  exact bytes_any bw rb b W h1
theorem PM.len {w W : World} {bw : Nat} {rb0 : Option Nat} {b : List Bool} {L : List (Nat × Obj)} (h : PM w W bw rb0 b L) : Calls Tryd.prog 16 #[.pointer (some ⟨bw, 0, none⟩)] W fun e W' => e = .returned (.int .i64 (b.length : Int)) ∧ W = W' := by
  obtain ⟨rb, h1, -⟩ := h.wr
  exact len_any bw rb b W h1
theorem PM.setOne {w W : World} {bw : Nat} {rb0 : Option Nat} {b : List Bool} {k : Nat} {cs0 : Array Value} {t : TypeId} (h : PM w W bw rb0 b [(k, .cells cs0 t (0, 0))]) (cs : Array Value) : PM w (W.setRow k cs) bw rb0 b [(k, .cells cs t (0, 0))] := by
  obtain ⟨rb, h1, h2⟩ := h.wr
  have ho := h.own _ (List.mem_singleton.2 rfl)
  have hk2 : w.heap.size ≤ k := ho.2
  have hbw := h.hbw
  have hrk : ∀ g, rb = some g → g ≠ k := by
    intro g hg e
    rcases h2 with h2 | ⟨g', h2, h5, h6⟩
    · have := h.hrb g (h2 ▸ hg); omega
    · rw [h2] at hg; cases hg; exact h6 _ (List.mem_singleton.2 rfl) e.symm
  refine ⟨⟨rb, h1.of_blocks (fun cs' t fr hx => (setRow_other W k bw cs (by omega)).trans hx) (fun g hg cs' t fr hx => (setRow_other W k g cs (hrk g hg)).trans hx), ?_⟩, fun p hp => ?_, fun j hj h3 h4 => (setRow_other W k j cs (by omega)).trans (h.old j hj h3 h4), by simp; exact h.size, h.os, h.tape, h.output, h.hbw, h.hrb⟩
  · rcases h2 with h2 | ⟨g', h2, h5, h6⟩
    · exact .inl h2
    · refine .inr ⟨g', h2, h5, fun p hp => ?_⟩
      rw [List.mem_singleton.1 hp]
      exact h6 (k, .cells cs0 t (0, 0)) (List.mem_singleton.2 rfl)
  · rw [List.mem_singleton.1 hp]
    exact ⟨setRow_heap W k _ cs _ _ ho.1, hk2⟩
/-- What stood before the writer was made stands still. -/
theorem PM.since {w0 w W : World} {bw : Nat} {b : List Bool} {L : List (Nat × Obj)} (h : PM w W bw none b L) (hb : Below w0.heap.size w0 w) (hbw : w0.heap.size ≤ bw) : Below w0.heap.size w0 W := by
  refine hb.trans ⟨h.os, h.tape, h.output, h.size, fun k hk => h.old k (Nat.lt_of_lt_of_le hk hb.size) (by omega) (fun e => by cases e)⟩
theorem PM.setRow {w W : World} {bw : Nat} {rb0 : Option Nat} {b : List Bool} {L : List (Nat × Obj)} (h : PM w W bw rb0 b L) {k : Nat} {o : Obj} (hk : (k, o) ∈ L) (cs : Array Value) : PM w (W.setRow k cs) bw rb0 b [] := by
  obtain ⟨rb, h1, h2⟩ := h.wr
  have ho := h.own _ hk
  have hb1 : bw ≠ k := by have := h.hbw; have := ho.2; simp at this; omega
  have hrk : ∀ g, rb = some g → g ≠ k := by
    intro g hg e
    rcases h2 with h2 | ⟨g', h2, h5, h6⟩
    · have := h.hrb g (h2 ▸ hg); have := ho.2; simp at this; omega
    · rw [h2] at hg; cases hg; exact h6 _ hk e.symm
  refine ⟨⟨rb, h1.of_blocks (fun cs' t fr hx => (setRow_other W k bw cs hb1).trans hx) (fun g hg cs' t fr hx => (setRow_other W k g cs (hrk g hg)).trans hx), ?_⟩, fun p hp => by simp at hp, fun j hj h3 h4 => ?_, by simp; exact h.size, h.os, h.tape, h.output, h.hbw, h.hrb⟩
  · rcases h2 with h2 | ⟨g', h2, h5, h6⟩
    · exact .inl h2
    · exact .inr ⟨g', h2, h5, fun p hp => by simp at hp⟩
  · refine (setRow_other W k j cs ?_).trans (h.old j hj h3 h4)
    have := ho.2; simp at this; omega
theorem PM.wrote {w W : World} {bw : Nat} {rb0 : Option Nat} {b : List Bool} {L : List (Nat × Obj)} (h : PM w W bw rb0 b L) : Wrote w bw rb0 b W := by
  obtain ⟨rb, h1, h2⟩ := h.wr
  refine ⟨⟨rb, h1, ?_⟩, h.size, h.os, h.tape, h.output, h.old⟩
  rcases h2 with h2 | ⟨g', h2, h5, -⟩
  · exact .inl h2
  · exact .inr ⟨g', h2, h5⟩
theorem PM.at_ {w W : World} {bw : Nat} {rb0 : Option Nat} {b : List Bool} {L : List (Nat × Obj)} (h : PM w W bw rb0 b L) {k : Nat} {o : Obj} (hk : (k, o) ∈ L) : W.heap[k]? = some o := (h.own _ hk).1
/-- Whatever writes so onto a writer, for the one writer of the call's own. -/
theorem One.wrote {w W W' : World} {bw : Nat} {rb : Option Nat} {b b' : List Bool} (h : Below w.heap.size w W) (hb : w.heap.size ≤ bw) (hr : ∀ g, rb = some g → w.heap.size ≤ g) (q : Wrote W bw rb b' W') : One w W' bw b' := by
  obtain ⟨rb', q1, q2⟩ := q.wr
  have hold := h.size
  refine ⟨h.trans ⟨q.os, q.tape, q.output, q.size, fun k hk => q.old k (by omega) (by omega) (fun e => by have := hr k e.symm; omega)⟩, ⟨rb', q1, ?_⟩, hb⟩
  intro g hg
  rcases q2 with q2 | ⟨g', q2, q3⟩
  · exact hr g (q2 ▸ hg)
  · rw [q2] at hg; cases hg; omega
end Go.Proofs.YtboomamnenonoaaDoor.BitsW
