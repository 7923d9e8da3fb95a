/-
  WHAT A WRITER OF BITS IS IN MEMORY, and what stands there while bits are put.
  A REGION THAT DRAWS ITS ORDER, WITHIN A ROUND, WHOSE LAST OPERATION z WRITES WHAT OTHERS READ: S holds of the world till z.
-/
import Derived.Test.YtdidengokijcjaaDoorJ06
import Derived.Test.YtdidengokijcjaaDoorJ01
import Derived.Maps.AppendAt
/-
  WHAT A WRITER OF BITS IS IN MEMORY, and what stands there while bits are put.
-/
namespace Go.Proofs.YtdidengokijcjaaDoor.BitsW
open Go.RowKit BitsM
/-- A writer in block bw, its bytes in block rb (none: none yet), holds the bits b. -/
def WriterAt (W : World) (bw : Nat) (rb : Option Nat) (b : List Bool) : Prop :=
  ∃ v, W.heap[bw]? = some (.cells #[v, .int .i64 (b.length : Int)] 121 (0, 0)) ∧ v.ownBlock = rb ∧ rb ≠ some bw ∧ W.ownsRow 0 5 1 v (pack b).length (byteCells (pack b))
/-- What is so behind puts on a writer: it holds the bits b; all else that was there is as it was. -/
structure Wrote (w : World) (bw : Nat) (rb0 : Option Nat) (b : List Bool) (w' : World) : Prop where
  wr : ∃ rb, WriterAt w' bw rb b ∧ (rb = rb0 ∨ ∃ g, rb = some g ∧ w.heap.size ≤ g)
  size : w.heap.size ≤ w'.heap.size
  os : w'.os = w.os
  tape : w'.tape = w.tape
  output : w'.output = w.output
  old : ∀ k, k < w.heap.size → k ≠ bw → some k ≠ rb0 → w'.heap[k]? = w.heap[k]?
/-- What stands in memory while bits are put: h: the heap's size where the call began. -/
structure PutMem (h bw : Nat) (v : Int) (rb0 : Option Nat) (w0 W : World) (f m left : Nat) (b : List Bool) : Prop where
  c0 : W.heap[h]? = some (.cells #[.pointer (some ⟨bw, 0, none⟩)] 102 (0, 0))
  c1 : W.heap[h + 1]? = some (.cells #[.int .u64 v] 35 (0, 0))
  c2 : W.heap[h + 1 + 1]? = some (.cells #[.int .i64 (left : Int)] 3 (0, 0))
  c3 : W.heap[h + 1 + 1 + 1]? = some (.cells #[.int .i64 (f : Int)] 3 (0, 0))
  c4 : W.heap[h + 1 + 1 + 1 + 1]? = some (.cells #[.int .i64 (m : Int)] 3 (0, 0))
  bound : f + m ≤ 1099511627776
  m64 : m ≤ 64
  wr : ∃ rb, WriterAt W bw rb b ∧ (rb = rb0 ∨ ∃ g, rb = some g ∧ h + 7 ≤ g)
  size : h + 7 ≤ W.heap.size
  os : W.os = w0.os
  tape : W.tape = w0.tape
  output : W.output = w0.output
  old : ∀ k, k < h → k ≠ bw → some k ≠ rb0 → W.heap[k]? = w0.heap[k]?
theorem putObj_cells {W : World} {k l : Nat} {cs : Array Value} {t : TypeId} {fr : Nat × Nat} {o o' : Obj} (h : W.heap[k]? = some (.cells cs t fr)) (hl : W.heap[l]? = some o) (ho : o.isCells = false) : (W.putObj l o').heap[k]? = some (.cells cs t fr) := by
  rw [World.putObj_heap_other]
  · exact h
  · intro e
    subst e
    rw [h] at hl
    cases hl
    cases ho
/-- What holds of a writer holds where its own blocks are as they were. -/
theorem WriterAt.of_blocks {W W' : World} {bw : Nat} {rb : Option Nat} {b : List Bool} (h : WriterAt W bw rb b) (h1 : ∀ cs t fr, W.heap[bw]? = some (.cells cs t fr) → W'.heap[bw]? = some (.cells cs t fr))
    (h2 : ∀ g, rb = some g → ∀ cs t fr, W.heap[g]? = some (.cells cs t fr) → W'.heap[g]? = some (.cells cs t fr)) : WriterAt W' bw rb b := by
  obtain ⟨v, hb, hr, hn, ho1, ho2⟩ := h
  refine ⟨v, h1 _ _ _ hb, hr, hn, ho1, ?_⟩
  rcases ho2 with ho2 | ⟨g, cap, cur, hv, hg, hh, rest⟩
  · exact .inl ho2
  · refine .inr ⟨g, cap, cur, hv, hg, h2 g ?_ _ _ _ hh, rest⟩
    rw [← hr, hv]; rfl
theorem PutMem.own {h bw : Nat} {v : Int} {rb0 : Option Nat} {w0 W : World} {f m left : Nat} {b : List Bool} (p : PutMem h bw v rb0 w0 W f m left b) : pcOwn (h + 1 + 1 + 1) (h + 1 + 1 + 1 + 1) (f, m) W :=
  ⟨p.bound, p.m64, by rw [cell_of_row W _ _ _ _ _ p.c3]; rfl, frozen_of_row W _ _ _ _ p.c3, by rw [cell_of_row W _ _ _ _ _ p.c4]; rfl, frozen_of_row W _ _ _ _ p.c4⟩
theorem PutMem.putObj {h bw : Nat} {v : Int} {rb0 : Option Nat} {w0 W : World} {f m left : Nat} {b : List Bool} {l : Nat} {o : Obj} (o' : Obj) (p : PutMem h bw v rb0 w0 W f m left b) (hl : W.heap[l]? = some o) (hlo : h ≤ l) (ho : o.isCells = false) : PutMem h bw v rb0 w0 (W.putObj l o') f m left b := by
  obtain ⟨rb, hwr, hrb⟩ := p.wr
  exact ⟨putObj_cells p.c0 hl ho, putObj_cells p.c1 hl ho, putObj_cells p.c2 hl ho, putObj_cells p.c3 hl ho, putObj_cells p.c4 hl ho, p.bound, p.m64,
    ⟨rb, hwr.of_blocks (fun cs t fr hh => putObj_cells hh hl ho) (fun g _ cs t fr hh => putObj_cells hh hl ho), hrb⟩, by simp; exact p.size, p.os, p.tape, p.output,
    fun k hk h1 h2 => (World.putObj_heap_other (by omega)).trans (p.old k hk h1 h2)⟩
/-- The iterator's step. -/
theorem PutMem.stepped {h bw : Nat} {v : Int} {rb0 : Option Nat} {w0 W : World} {s : Nat × Nat} {left : Nat} {b : List Bool} (p : PutMem h bw v rb0 w0 W s.1 s.2 left b) (hbw : bw < h) (hrb0 : ∀ g, rb0 = some g → g < h) :
    PutMem h bw v rb0 w0 (pcStepped (h + 1 + 1 + 1) (h + 1 + 1 + 1 + 1) s W) (pcNext s).1 (pcNext s).2 left b := by
  have hs1 : take s ≤ s.2 := by unfold take; omega
  have e3 : (W.setCell ⟨h + 1 + 1 + 1, 0, none⟩ (.int .i64 (((pcNext s).1 : Nat) : Int))).heap[h + 1 + 1 + 1]? = some (.cells #[.int .i64 (((pcNext s).1 : Nat) : Int)] 3 (0, 0)) := heap_setCell_same W _ 0 _ _ _ p.c3
  have o3 : ∀ k, k ≠ h + 1 + 1 + 1 → (W.setCell ⟨h + 1 + 1 + 1, 0, none⟩ (.int .i64 (((pcNext s).1 : Nat) : Int))).heap[k]? = W.heap[k]? := fun k hk => heap_setCell_other W _ k _ hk
  have e4 : (pcStepped (h + 1 + 1 + 1) (h + 1 + 1 + 1 + 1) s W).heap[h + 1 + 1 + 1 + 1]? = some (.cells #[.int .i64 (((pcNext s).2 : Nat) : Int)] 3 (0, 0)) :=
    heap_setCell_same (W.setCell ⟨h + 1 + 1 + 1, 0, none⟩ (.int .i64 (((pcNext s).1 : Nat) : Int))) _ 0 _ _ _ ((o3 _ (by omega)).trans p.c4)
  have o4 : ∀ k, k ≠ h + 1 + 1 + 1 → k ≠ h + 1 + 1 + 1 + 1 → (pcStepped (h + 1 + 1 + 1) (h + 1 + 1 + 1 + 1) s W).heap[k]? = W.heap[k]? := fun k h1 h2 =>
    (heap_setCell_other (W.setCell ⟨h + 1 + 1 + 1, 0, none⟩ (.int .i64 (((pcNext s).1 : Nat) : Int))) _ k _ h2).trans (o3 k h1)
  obtain ⟨rb, hwr, hrb⟩ := p.wr
  refine ⟨(o4 _ (by omega) (by omega)).trans p.c0, (o4 _ (by omega) (by omega)).trans p.c1, (o4 _ (by omega) (by omega)).trans p.c2, ?_, e4, ?_, ?_, ⟨rb, ?_, hrb⟩, ?_, p.os, p.tape, p.output, fun k hk h1 h2 => (o4 k (by omega) (by omega)).trans (p.old k hk h1 h2)⟩
  · exact (heap_setCell_other (W.setCell ⟨h + 1 + 1 + 1, 0, none⟩ (.int .i64 (((pcNext s).1 : Nat) : Int))) _ _ _ (by simp)).trans e3
  · have := p.bound; unfold pcNext; simp only []; omega
  · have := p.m64; unfold pcNext; simp only []; omega
  · refine hwr.of_blocks (fun cs t fr hh => (o4 _ (by omega) (by omega)).trans hh) (fun g hg cs t fr hh => ?_)
    refine (o4 g ?_ ?_).trans hh
    · rcases hrb with hrb | ⟨g', hg', hle⟩
      · have := hrb0 g (by rw [← hrb]; exact hg); omega
      · rw [hg] at hg'; cases hg'; omega
    · rcases hrb with hrb | ⟨g', hg', hle⟩
      · have := hrb0 g (by rw [← hrb]; exact hg); omega
      · rw [hg] at hg'; cases hg'; omega
  · have := p.size; simp [pcStepped, World.setCell]; omega
/-- Amid a round: the row of bytes is L, not yet what the writer's bits are. -/
structure MidMem (h bw : Nat) (v : Int) (rb0 : Option Nat) (w0 W : World) (f m left : Nat) (sv : Value) (L : List UInt8) : Prop where
  c0 : W.heap[h]? = some (.cells #[.pointer (some ⟨bw, 0, none⟩)] 102 (0, 0))
  c1 : W.heap[h + 1]? = some (.cells #[.int .u64 v] 35 (0, 0))
  c2 : W.heap[h + 1 + 1]? = some (.cells #[.int .i64 (left : Int)] 3 (0, 0))
  c3 : W.heap[h + 1 + 1 + 1]? = some (.cells #[.int .i64 (f : Int)] 3 (0, 0))
  c4 : W.heap[h + 1 + 1 + 1 + 1]? = some (.cells #[.int .i64 (m : Int)] 3 (0, 0))
  bound : f + m ≤ 1099511627776
  m64 : m ≤ 64
  bwc : W.heap[bw]? = some (.cells #[sv, .int .i64 (f : Int)] 121 (0, 0))
  row : W.ownsRow 0 5 1 sv L.length (byteCells L)
  ne : sv.ownBlock ≠ some bw
  rb : sv.ownBlock = rb0 ∨ ∃ g, sv.ownBlock = some g ∧ h + 7 ≤ g
  size : h + 7 ≤ W.heap.size
  os : W.os = w0.os
  tape : W.tape = w0.tape
  output : W.output = w0.output
  old : ∀ k, k < h → k ≠ bw → some k ≠ rb0 → W.heap[k]? = w0.heap[k]?
theorem MidMem.drewN {h bw : Nat} {v : Int} {rb0 : Option Nat} {w0 W : World} {f m left : Nat} {sv : Value} {L : List UInt8} (p : MidMem h bw v rb0 w0 W f m left sv L) (n : Nat) : MidMem h bw v rb0 w0 (W.drewN n) f m left sv L :=
  ⟨p.c0, p.c1, p.c2, p.c3, p.c4, p.bound, p.m64, p.bwc, p.row, p.ne, p.rb, p.size, p.os, p.tape, p.output, p.old⟩
/-- The round's last two stores. -/
theorem MidMem.close {h bw : Nat} {v : Int} {rb0 : Option Nat} {w0 W : World} {f m left t : Nat} {F : List UInt8} {x y : UInt8} {g cap : Nat} (p : MidMem h bw v rb0 w0 W f m left (.slice (some ⟨g, 0, none⟩) (F.length + 1) cap) (F ++ [x]))
    (hlt : bw < h) (hrb0 : ∀ g, rb0 = some g → g < h) {b : List Bool} (hb : pack b = F ++ [y]) (hl : b.length = f + t) :
    PutMem h bw v rb0 w0 ((W.setCell ⟨g, F.length, none⟩ (.int .u8 (y.toNat : Int))).setCell ⟨bw, 1, none⟩ (.int .i64 ((f : Int) + (t : Int)))) f m left b := by
  have hgb : g ≠ bw := fun e => p.ne (by rw [← e]; rfl)
  have hgh : g < h ∨ h + 7 ≤ g := by
    rcases p.rb with h1 | ⟨g', h1, h2⟩
    · exact .inl (hrb0 g h1.symm)
    · cases h1; exact .inr h2
  have hrow : W.ownsRow 0 5 1 (.slice (some ⟨g, 0, none⟩) (F.length + 1) cap) (F.length + 1) (byteCells (F ++ [x])) := by simpa using p.row
  have hst := hrow.stored F.length (.int .u8 (y.toNat : Int))
  have eset : (byteCells (F ++ [x])).set F.length (.int .u8 (y.toNat : Int)) = byteCells (pack b) := by
    rw [hb]; simp [byteCells]
  rw [eset] at hst
  have o1 : ∀ k, k ≠ g → (W.setCell ⟨g, F.length, none⟩ (.int .u8 (y.toNat : Int))).heap[k]? = W.heap[k]? := fun k hk => heap_setCell_other W _ k _ hk
  have o2 : ∀ k, k ≠ g → k ≠ bw → ((W.setCell ⟨g, F.length, none⟩ (.int .u8 (y.toNat : Int))).setCell ⟨bw, 1, none⟩ (.int .i64 ((f : Int) + (t : Int)))).heap[k]? = W.heap[k]? := fun k h1 h2 =>
    (heap_setCell_other (W.setCell ⟨g, F.length, none⟩ (.int .u8 (y.toNat : Int))) _ k _ h2).trans (o1 k h1)
  have o3 : ∀ k, k ≠ bw → ((W.setCell ⟨g, F.length, none⟩ (.int .u8 (y.toNat : Int))).setCell ⟨bw, 1, none⟩ (.int .i64 ((f : Int) + (t : Int)))).heap[k]? = (W.setCell ⟨g, F.length, none⟩ (.int .u8 (y.toNat : Int))).heap[k]? := fun k h2 =>
    heap_setCell_other (W.setCell ⟨g, F.length, none⟩ (.int .u8 (y.toNat : Int))) _ k _ h2
  refine ⟨(o2 _ (by omega) (by omega)).trans p.c0, (o2 _ (by omega) (by omega)).trans p.c1, (o2 _ (by omega) (by omega)).trans p.c2, (o2 _ (by omega) (by omega)).trans p.c3, (o2 _ (by omega) (by omega)).trans p.c4, p.bound, p.m64, ⟨some g, ?_, ?_⟩, ?_, p.os, p.tape, p.output, ?_⟩
  · refine ⟨.slice (some ⟨g, 0, none⟩) (F.length + 1) cap, ?_, rfl, fun e => hgb (by cases e; rfl), ?_⟩
    · have e := heap_setCell_same (W.setCell ⟨g, F.length, none⟩ (.int .u8 (y.toNat : Int))) bw 1 _ _ (.int .i64 ((f : Int) + (t : Int))) ((o1 _ (Ne.symm hgb)).trans p.bwc)
      rw [e, hl]
      simp
    · have hlen : (pack b).length = F.length + 1 := by rw [hb]; simp
      rw [hlen]
      obtain ⟨⟨r1, r2⟩, -⟩ := hst
      refine ⟨r1, ?_⟩
      rcases r2 with r2 | ⟨g', cap', cur, hv, hg, hh, rest⟩
      · exact .inl r2
      · refine .inr ⟨g', cap', cur, hv, hg, ?_, rest⟩
        cases hv
        exact (o3 _ hgb).trans hh
  · rcases p.rb with h1 | ⟨g', h1, h2⟩
    · exact .inl h1
    · cases h1; exact .inr ⟨_, rfl, h2⟩
  · have := p.size; simp [World.setCell]; exact this
  · intro k hk h1 h2
    refine (o2 k ?_ h1).trans (p.old k hk h1 h2)
    intro e
    subst e
    rcases p.rb with h3 | ⟨g', h3, h4⟩
    · exact h2 h3
    · cases h3; have h5 : h + 7 ≤ k := h4; omega
/-- 'left' is counted down. -/
theorem PutMem.mid {h bw : Nat} {v : Int} {rb0 : Option Nat} {w0 W : World} {f m left : Nat} {b : List Bool} (p : PutMem h bw v rb0 w0 W f m left b) (hf : b.length = f) : ∃ sv, MidMem h bw v rb0 w0 W f m left sv (pack b) := by
  obtain ⟨rb, ⟨sv, h1, h2, h3, h4⟩, h5⟩ := p.wr
  subst h2
  exact ⟨sv, p.c0, p.c1, p.c2, p.c3, p.c4, p.bound, p.m64, hf ▸ h1, h4, h3, h5, p.size, p.os, p.tape, p.output, p.old⟩
theorem MidMem.lower {h bw : Nat} {v : Int} {rb0 : Option Nat} {w0 W : World} {f m left : Nat} {sv : Value} {L : List UInt8} (p : MidMem h bw v rb0 w0 W f m left sv L) (hlt : bw < h) (hrb0 : ∀ g, rb0 = some g → g < h) (left' : Nat) (x : Int) (hx : x = (left' : Nat)) :
    MidMem h bw v rb0 w0 (W.setCell ⟨h + 1 + 1, 0, none⟩ (.int .i64 x)) f m left' sv L := by
  subst hx
  have o : ∀ k, k ≠ h + 1 + 1 → (W.setCell ⟨h + 1 + 1, 0, none⟩ (.int .i64 (left' : Int))).heap[k]? = W.heap[k]? := fun k hk => heap_setCell_other W _ k _ hk
  refine ⟨(o _ (by omega)).trans p.c0, (o _ (by omega)).trans p.c1, heap_setCell_same W _ 0 _ _ _ p.c2, (o _ (by omega)).trans p.c3, (o _ (by omega)).trans p.c4, p.bound, p.m64, (o _ (by omega)).trans p.bwc, ?_, p.ne, p.rb, by have := p.size; simp [World.setCell]; exact this, p.os, p.tape, p.output, fun k hk h1 h2 => (o k (by omega)).trans (p.old k hk h1 h2)⟩
  obtain ⟨r1, r2⟩ := p.row
  refine ⟨r1, ?_⟩
  rcases r2 with r2 | ⟨g, cap, cur, hv, hg, hh, rest⟩
  · exact .inl r2
  · refine .inr ⟨g, cap, cur, hv, hg, ?_, rest⟩
    refine (o g ?_).trans hh
    intro e
    rcases p.rb with h3 | ⟨g', h3, h4⟩
    · have := hrb0 g (by rw [← h3, hv]; rfl); omega
    · rw [hv] at h3; cases h3; have h5 : h + 7 ≤ g := h4; omega
/-- A byte 0 is appended to the row and the writer's field takes what came of it. -/
theorem MidMem.grow {h bw : Nat} {v : Int} {rb0 : Option Nat} {w0 W : World} {f m left : Nat} {sv : Value} {L : List UInt8} (p : MidMem h bw v rb0 w0 W f m left sv L) (hlt : bw < h) (hrb0 : ∀ g, rb0 = some g → g < h) (hL : L.length ≤ 1099511627776) (B : Nat) (ty : TypeId) :
    ∃ (v' : Value) (W2 : World), (Builtin.append_ #[46, 46] ty #[sv, .slice (some ⟨W.heap.size, 0, none⟩) 1 1]).run Tryd.prog (W.drew.alloc (.cells #[.int .u8 0] 5 (0, 0))) = .ok v' W2 ∧
      W2.cell? ⟨bw, 0, none⟩ = some sv ∧ W2.frozen? ⟨bw, 0, none⟩ = false ∧ W2.cell? ⟨h, 0, none⟩ = some (.pointer (some ⟨bw, 0, none⟩)) ∧
      (∃ g cap, v' = .slice (some ⟨g, 0, none⟩) (L.length + 1) cap) ∧
      MidMem h bw v rb0 w0 (W2.setCell ⟨bw, 0, none⟩ v') f m left v' (L ++ [0]) ∧ KeepsNon B W (W2.setCell ⟨bw, 0, none⟩ v') := by
  obtain ⟨i0, hi, hz0, hz1, hz2⟩ := info_parts (show Elem Tryd.prog 5 (.int .u8 0) 1 1 by unfold Elem; kernel_rfl)
  have hown : (W.drew.alloc (.cells #[.int .u8 0] 5 (0, 0))).ownsRow 0 5 1 sv L.length (byteCells L) := p.row.drew.alloc _
  obtain ⟨v', W2, hr, ho2, hg, -, hplace⟩ := run_append_own_at (P := Tryd.prog) (W.drew.alloc (.cells #[.int .u8 0] 5 (0, 0))) 0 46 ty 5 i0 (.int .u8 0) 1 1 (by kernel_rfl) hi hz0 hz1 hz2 rfl (by decide) sv L.length (byteCells L) hown ⟨W.heap.size, 0, none⟩ 1 1 [.int .u8 0] rfl
    (by
      intro j u hj
      have hp : (⟨W.heap.size, 0, none⟩ : Addr).add j = ⟨W.heap.size, j, none⟩ := by unfold Addr.add; split <;> simp_all
      rw [hp]
      have e : (W.drew.alloc (.cells #[.int .u8 0] 5 (0, 0))).cell? ⟨W.drew.heap.size, j, none⟩ = some u := by
        rw [World.cell?_alloc_mark]
        cases j with
        | zero => simpa using hj
        | succ j => simp at hj
      exact e)
    (by intro u hu; simp at hu; rw [hu]; rfl) (by unfold maxLen; omega) (by omega) (Nat.zero_le _)
  have hz : W.drew.heap.size = W.heap.size := rfl
  have hall : ∀ k, k < W.heap.size → some k ≠ sv.ownBlock → W2.heap[k]? = W.heap[k]? := by
    intro k hk hne
    rw [hg.block k (by simp; omega) hne]
    exact Below.heap_alloc _ _ _ (by rw [hz]; exact hk)
  have hsz := p.size
  have hs2 : W.heap.size + 1 ≤ W2.heap.size := by have := hg.size; simpa using this
  have hsv : ∀ g, sv.ownBlock = some g → g < h ∨ h + 7 ≤ g := by
    intro g hg
    rcases p.rb with h1 | ⟨g', h1, h2⟩
    · exact .inl (hrb0 g (by rw [← h1]; exact hg))
    · rw [hg] at h1; cases h1; exact .inr h2
  have hin : ∀ k, h ≤ k → k < h + 7 → W2.heap[k]? = W.heap[k]? := fun k h1 h2 => hall k (by omega) (fun e => by rcases hsv k e.symm with h3 | h3 <;> omega)
  have hbw : W2.heap[bw]? = W.heap[bw]? := hall bw (by omega) (Ne.symm p.ne)
  have o : ∀ k, k ≠ bw → (W2.setCell ⟨bw, 0, none⟩ v').heap[k]? = W2.heap[k]? := fun k hk => heap_setCell_other W2 _ k _ hk
  have hlen : (byteCells L).length = L.length := by simp [byteCells]
  have hform : ∃ g cap, v' = .slice (some ⟨g, 0, none⟩) (L.length + 1) cap := by
    rcases ho2.2 with ⟨hv, hn⟩ | ⟨g, cap, cur, hv, _⟩
    · omega
    · exact ⟨g, cap, hv⟩
  refine ⟨v', W2, hr, ?_, ?_, ?_, hform, ⟨?_, ?_, ?_, ?_, ?_, p.bound, p.m64, ?_, ?_, ?_, ?_, ?_, hg.os.trans p.os, hg.tape.trans p.tape, hg.output.trans p.output, ?_⟩, ?_⟩
  · rw [cell_of_row W2 _ _ _ _ _ (hbw.trans p.bwc)]; rfl
  · exact frozen_of_row W2 _ _ _ _ (hbw.trans p.bwc)
  · rw [cell_of_row W2 _ _ _ _ _ ((hin h (by omega) (by omega)).trans p.c0)]; rfl
  · exact (o _ (by omega)).trans ((hin _ (by omega) (by omega)).trans p.c0)
  · exact (o _ (by omega)).trans ((hin _ (by omega) (by omega)).trans p.c1)
  · exact (o _ (by omega)).trans ((hin _ (by omega) (by omega)).trans p.c2)
  · exact (o _ (by omega)).trans ((hin _ (by omega) (by omega)).trans p.c3)
  · exact (o _ (by omega)).trans ((hin _ (by omega) (by omega)).trans p.c4)
  · rw [heap_setCell_same W2 bw 0 _ _ v' (hbw.trans p.bwc)]; rfl
  · have e : byteCells (L ++ [0]) = byteCells L ++ [.int .u8 0] := by simp [byteCells]
    rw [e, List.length_append, List.length_singleton]
    refine ⟨ho2.1, ?_⟩
    rcases ho2.2 with ⟨hv, hn⟩ | ⟨g, cap, cur, hv, hgb, hh, rest⟩
    · omega
    · refine .inr ⟨g, cap, cur, hv, hgb, (o g ?_).trans hh, rest⟩
      intro e
      subst e
      rcases hplace with h1 | h1
      · exact p.ne (by rw [← h1, hv]; rfl)
      · rw [hv] at h1; simp [Value.ownBlock] at h1; omega
  · rcases hplace with h1 | h1
    · rw [h1]; exact p.ne
    · rw [h1]; simp; omega
  · rcases hplace with h1 | h1
    · rw [h1]; exact p.rb
    · rw [h1]; exact .inr ⟨_, rfl, by simp; omega⟩
  · simp [World.setCell]; omega
  · intro k hk h1 h2
    rw [o k h1]
    refine (hall k (by omega) ?_).trans (p.old k hk h1 h2)
    intro e
    rcases p.rb with h3 | ⟨g', h3, h4⟩
    · rw [h3] at e; exact h2 e
    · rw [h3] at e; cases e; omega
  · refine KeepsNon.trans ⟨by omega, ?_⟩ (KeepsNon.setCell _ _ _ _)
    intro k ob _ hk hc
    by_cases he : some k = sv.ownBlock
    · exfalso
      rcases p.row.2 with ⟨hv, _⟩ | ⟨g, cap, cur, hv, _, hh, _⟩
      · rw [hv] at he; cases he
      · rw [hv] at he; cases he; rw [hh] at hk; cases hk; cases hc
    · exact (hall k (Array.getElem?_eq_some_iff.1 hk).1 he).trans hk
end Go.Proofs.YtdidengokijcjaaDoor.BitsW
/-
  A REGION THAT DRAWS ITS ORDER, WITHIN A ROUND, WHOSE LAST OPERATION z WRITES WHAT OTHERS READ: S holds of the world till z.
-/
namespace Go.Proofs.YtdidengokijcjaaDoor
open Go Go.RowKit
section
variable {P : Program} {ops : Array Oper} {Q : Exit → Act → World → Prop} {S : World → Prop} {z : Nat}
/-- What may come up comes up; S holds behind each but z. -/
def wpTill (P : Program) (ops : Array Oper) (Q : Exit → Act → World → Prop) (S : World → Prop) (z : Nat) : Nat → Array Bool → Act → World → Prop
  | 0, listed, a, w => Region.ready .any ops listed = [] ∧ Q .normal a w
  | f + 1, listed, a, w => (Region.ready .any ops listed = [] → Q .normal a w) ∧ ∀ j ∈ Region.ready .any ops listed, wpOp P ops Q j (fun a' w' => (j ≠ z → S w') ∧ wpTill P ops Q S z f (listed.setIfInBounds j true) a' w') a w
theorem wpAny_of_till : ∀ (f : Nat) (listed : Array Bool) (a : Act) (w : World), wpTill P ops Q S z f listed a w → wpAny P .any ops Q f listed a w
  | 0, _, _, _, h => h
  | f + 1, _, _, _, h => ⟨h.1, fun j hj => wpOp_mono (fun a' w' h' => wpAny_of_till f _ a' w' h'.2) (h.2 j hj)⟩
theorem till_first {i : Nat} {oi : Oper} {v : Value} (hi : ops[i]? = some oi) (hsel : ∀ (j : Nat) (o : Oper) cs b, ops[j]? = some o → o.op ≠ .select cs b) (hQ : ∀ c a w, Q (.panic c) (a.put oi.dst v) w → Q (.panic c) a w) (hiz : i ≠ z)
    (hz : ∀ oz, ops[z]? = some oz → ∃ e ∈ oz.after, Region.binds .any e = true ∧ e.on = i) :
    ∀ (f : Nat) (listed : Array Bool) (a : Act) (w : World), (∀ j oj, ops[j]? = some oj → j ≠ i → listed.getD j true = false → (∀ e ∈ oj.after, Region.binds .any e = true → e.on ≠ i) → oi.apart ops oj = true) →
      i ∈ Region.ready .any ops listed → YieldsIf P ops S oi v a → S w → wpTill P ops Q S z f (listed.setIfInBounds i true) (a.put oi.dst v) w → wpTill P ops Q S z (f + 1) listed a w := by
  intro f
  induction f with
  | zero =>
    intro listed a w _ hr hy hS H
    refine ⟨(fun h => by rw [h] at hr; cases hr), fun j hj => ?_⟩
    by_cases hji : j = i
    · subst hji; exact hy.wpOp hi hS ⟨fun _ => hS, H⟩
    · have := ready_mono hj hji
      rw [H.1] at this; cases this
  | succ f ih =>
    intro listed a w hfree hr hy hS H
    refine ⟨(fun h => by rw [h] at hr; cases hr), fun j hj => ?_⟩
    by_cases hji : j = i
    · subst hji; exact hy.wpOp hi hS ⟨fun _ => hS, H⟩
    obtain ⟨hun, oj, hoj, hall⟩ := mem_ready.1 hj
    have hi0 := (mem_ready.1 hr).1
    have hno : ∀ e ∈ oj.after, Region.binds .any e = true → e.on ≠ i := by
      intro e he hb heq
      have h1 := hall e he hb
      rw [heq] at h1
      rcases Nat.lt_or_ge i listed.size with h' | h'
      · simp [h'] at hi0 h1; rw [hi0] at h1; cases h1
      · simp [Array.getElem?_eq_none h'] at h1
    have hjz : j ≠ z := by
      intro e
      subst e
      obtain ⟨e, he, hb, hon⟩ := hz oj hoj
      exact hno e he hb hon
    have h2 := wpOp_putIf hoj (hfree j oj hoj hji hun hno) (fun cs b => hsel i oi cs b hi) (fun cs b => hsel j oj cs b hoj) hQ hy (H.2 j (ready_mono hj hji))
    refine wpOp_mono (fun a' w' h3 => ⟨fun _ => h3.2.1 hjz, ih (listed.setIfInBounds j true) a' w' (fun k ok hk hki hku hkn => hfree k ok hk hki ?_ hkn) (ready_mono hr (Ne.symm hji)) h3.1 (h3.2.1 hjz) ?_⟩) h2
    · by_cases hjk : j = k
      · subst hjk; exact hun
      · rwa [getD_set_ne true hjk] at hku
    · rw [Array.setIfInBounds_comm _ _ hji]
      exact h3.2.2
/-- The last one waits for i. -/
def waitsB (ops : Array Oper) (z i : Nat) : Bool := match ops[z]? with | some oz => oz.after.any fun e => Region.binds .any e && e.on == i | none => true
theorem waitsB_spec {i : Nat} (h : waitsB ops z i = true) : ∀ oz, ops[z]? = some oz → ∃ e ∈ oz.after, Region.binds .any e = true ∧ e.on = i := by
  intro oz ho
  unfold waitsB at h
  rw [ho] at h
  simp only [Array.any_eq_true] at h
  obtain ⟨k, hk, hb⟩ := h
  simp at hb
  exact ⟨_, Array.getElem_mem hk, hb.1, hb.2⟩
theorem till_take (i : Nat) {oi : Oper} (v : Value) {f : Nat} {listed : Array Bool} {a : Act} {w : World} (hi : ops[i]? = some oi)
    (hs : Region.noSelect ops = true) (hf : Region.free .any ops listed i = true) (hr : (Region.ready .any ops listed).contains i = true) (hiz : i ≠ z) (hz : waitsB ops z i = true) (hg : oi.guard = none)
    (hy : ∀ w, S w → (execOp a.eval oi).run P w = .ok (.value v) w) (hS : S w)
    (h : wpTill P ops (Nrm Q) S z f (listed.setIfInBounds i true) (a.put oi.dst v) w) : wpTill P ops (Nrm Q) S z (f + 1) listed a w :=
  till_first hi (Region.noSelect_spec hs) (fun _ _ _ h => h.elim) hiz (waitsB_spec hz) f listed a w (Region.free_spec hi hf) (by simpa using hr) (.inl ⟨by simp [Region.wanted, hg], hy⟩) hS h
theorem till_one (i : Nat) {oi : Oper} {f : Nat} {listed : Array Bool} {a : Act} {w : World} (hi : ops[i]? = some oi) (hr : Region.ready .any ops listed = [i]) (hg : oi.guard = none)
    (h : ∀ K : Act → World → Prop, (∀ a' w', (i ≠ z → S w') → wpTill P ops (Nrm Q) S z f (listed.setIfInBounds i true) a' w' → K a' w') → oi.wp P a w K (Nrm Q)) : wpTill P ops (Nrm Q) S z (f + 1) listed a w := by
  refine ⟨(fun h0 => by rw [hr] at h0; cases h0), fun j hj => ?_⟩
  rw [hr] at hj
  obtain rfl : j = i := by simpa using hj
  unfold wpOp
  simp only [hi]
  rw [if_pos (by simp [Region.wanted, hg])]
  exact .inl (h _ fun _ _ h1 h2 => ⟨h1, h2⟩)
theorem till_val (i : Nat) {oi : Oper} (v : Value) (w' : World) {f : Nat} {listed : Array Bool} {a : Act} {w : World} (hi : ops[i]? = some oi) (hr : Region.ready .any ops listed = [i]) (hg : oi.guard = none)
    (hy : (execOp a.eval oi).run P w = .ok (.value v) w') (hS : i ≠ z → S w') (h : wpTill P ops (Nrm Q) S z f (listed.setIfInBounds i true) (a.put oi.dst v) w') : wpTill P ops (Nrm Q) S z (f + 1) listed a w :=
  till_one i hi hr hg fun K hK => by
    unfold Oper.wp
    rw [hy]
    exact hK _ _ hS h
theorem till_skip (i : Nat) {oi : Oper} (w' : World) {f : Nat} {listed : Array Bool} {a : Act} {w : World} (hi : ops[i]? = some oi) (hr : Region.ready .any ops listed = [i]) (hg : oi.guard = none)
    (hy : (execOp a.eval oi).run P w = .ok .skip w') (hS : i ≠ z → S w') (h : wpTill P ops (Nrm Q) S z f (listed.setIfInBounds i true) (a.put oi.dst undef) w') : wpTill P ops (Nrm Q) S z (f + 1) listed a w :=
  till_one i hi hr hg fun K hK => by
    unfold Oper.wp
    rw [hy]
    exact hK _ _ hS h
theorem run_append_op {o : Oper} {a : Act} {w w' : World} {s x : Operand} {t : TypeId} {sv xv v' : Value} (ho : o.op = .call { callee := .builtin .append, args := #[s, x], argTypes := #[t, t] }) (hs : a.eval s = sv) (hx : a.eval x = xv)
    (hr : (Builtin.append_ #[t, t] o.type #[sv, xv]).run P w = .ok v' w') : (execOp a.eval o).run P w = .ok (.value v') w' := by
  unfold execOp
  simp only [ho, resolve, invoke, builtin, Sem.run_bind, Sem.run_pure, Result.andThen_ok, List.map_toArray, List.map_cons, List.map_nil, hs, hx, hr]
theorem till_done {listed : Array Bool} {a : Act} {w : World} (hr : Region.ready .any ops listed = []) (h : Q .normal a w) : wpTill P ops (Nrm Q) S z 0 listed a w := ⟨hr, h⟩
theorem wpIn_round_till (S : World → Prop) (z : Nat) {r n id : Nat} {a : Act} {w : World} (hm : P.follows .mixedOrders = true) (hd : noDefer ops.toList = true)
    (h : wpTill P ops (Nrm Q) S z ops.size (Array.replicate ops.size false) a w.drew) : (Code.region id ops true).wpIn (Fence.wide.inRound r) n P Q a w :=
  Code.wpIn_mono Nrm.imp (wpIn_round_any (Q := Nrm Q) hm Nrm.noOut hd (wpAny_of_till _ _ _ _ h))
end
end Go.Proofs.YtdidengokijcjaaDoor
