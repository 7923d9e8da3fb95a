/-
  SMALL LAWS OF MY OWN FOR WALKS, OVER ANY PROGRAM.
-/
import Derived.WalkKit
import Derived.WalkSpells
import Derived.WalkLawsBesides
import Derived.Lib.Hide
import Derived.Laws.Rows
import Derived.Maps.AppendAt
import Derived.Laws.BytesArg
import Derived.Laws.IdiomStrings
/-
  SMALL LAWS OF MY OWN FOR WALKS, OVER ANY PROGRAM.
-/
namespace Go.Proofs.Ytdjgndnllaingaa
open Go.RowKit

theorem below_setRow {B : Nat} {a w : World} (h : Below B a w) {g : Nat} (hg : B ≤ g) (cs : Array Value) : Below B a (w.setRow g cs) :=
  h.trans ⟨rfl, rfl, rfl, by simp, fun k hk => setRow_other w g k cs (by omega)⟩
theorem below_draws {w w1 : World} {n : Nat} (h : Below (w.drewN n).heap.size (w.drewN n) w1) : Below w.heap.size w w1 := ⟨h.os, h.tape, h.output, h.size, h.block⟩
theorem below_draw {w w1 : World} (h : Below w.drew.heap.size w.drew w1) : Below w.heap.size w w1 := ⟨h.os, h.tape, h.output, h.size, h.block⟩
theorem below_drawsB {B : Nat} {w w1 : World} {n : Nat} (h : Below B (w.drewN n) w1) : Below B w w1 := ⟨h.os, h.tape, h.output, h.size, h.block⟩
/-- What was begun later keeps what was there earlier. -/
theorem later {w w1 w2 : World} (h : Below w.heap.size w w1) (h2 : Below w1.heap.size w1 w2) : Below w.heap.size w w2 := h.trans (h2.mono h.size)

/-- A whole array into the variable that was made last: the world has a name behind it. -/
theorem wpList_store_fresh {P : Program} {ops : Array Oper} {rest : List Oper} {o : Oper} {a : Act} {w1 : World} {Q : Exit → Act → World → Prop} (hgd : o.guard = none) (ty : TypeId) (x y : Operand) (ho : o.op = .store ty x y)
    (cells : Array Value) (hx : a.eval x = .pointer (some ⟨w1.heap.size, 0, none⟩)) (hy : a.eval y = .agg cells)
    (t : TypeId) (old : Array Value) (hi : (P.info? ty).map (·.size) = some cells.size)
    (hold : old.size = cells.size) (h1 : cells.all (·.oneCell') = true)
    (h : ∀ w2, Below w1.heap.size w1 w2 → w2.heap[w1.heap.size]? = some (.cells cells t (0, 0)) → w2.heap.size = w1.heap.size + 1 → wpList P ops Q rest (a.put o.dst undef) w2) :
    wpList P ops Q (o :: rest) a (w1.alloc (.cells old t (0, 0))) := by
  refine wpList_store_row hgd ty x y ho w1.heap.size cells hx hy t old (heap_alloc_new w1 _) hi hold h1 (h _ ?_ ?_ ?_)
  · exact below_setRow ((Below.refl _ _).alloc (Nat.le_refl _) _) (Nat.le_refl _) _
  · exact setRow_heap _ _ _ cells _ _ (heap_alloc_new w1 _)
  · simp

/-- What is known of a type: its zero value, how many cells, how many bytes. -/
def Elem (P : Program) (e : TypeId) (z : Value) (size bytes : Nat) : Prop := (P.info? e).map (fun i => (i.zero, i.size, i.bytes)) = some (some z, size, bytes)

/-- 'append(s, x)' of one thing, of however many cells, onto a row of the call's own. -/
theorem wpList_append_one {P : Program} {ops : Array Oper} {rest : List Oper} {o : Oper} {a : Act} {Q : Exit → Act → World → Prop} (hgd : o.guard = none) (s x : Operand) (t : TypeId)
    (ho : o.op = .call { callee := .builtin .append, args := #[s, x], argTypes := #[t, t] })
    (base : Nat) (e : TypeId) (z : Value) (size bytes : Nat) (ht : P.underlying t = some (.slice e)) (he : Elem P e z size bytes) (hzs : z.cells.size = size) (hsz : 0 < size)
    {v : Value} {n : Nat} {xs : List Value} (wr : World) (hown : wr.ownsRow base e size v n xs) (hs : a.eval s = v) (us : Array Value)
    (hx : a.eval x = .slice (some ⟨wr.heap.size, 0, none⟩) 1 1) (hl : us.size = size) (h1 : ∀ u ∈ us.toList, u.oneCell' = true)
    (hbytes : (n + 1) * bytes ≤ 140737488355328) (h63 : n + 1 ≤ 140737488355328) (hbase : base ≤ wr.heap.size)
    (h : ∀ v' w', w'.ownsRow base e size v' (n + 1) (xs ++ us.toList) → Below base wr w' → wr.heap.size < w'.heap.size → wpList P ops Q rest (a.put o.dst v') w') :
    wpList P ops Q (o :: rest) a (wr.alloc (.cells us e (0, 0))) := by
  obtain ⟨i0, hi, hz0, hz1, hz2⟩ := info_parts he
  refine wpList_append_own (w := wr.alloc (.cells us e (0, 0))) hgd s x t ho base e i0 z size bytes ht hi hz0 hz1 hz2 hzs hsz v n xs hs (hown.alloc _) ⟨wr.heap.size, 0, none⟩ 1 1 us.toList hx (by simp [hl]) ?_ h1 ?_ hbytes ?_ ?_
  · intro j u hj
    have hp : (⟨wr.heap.size, 0, none⟩ : Addr).add j = ⟨wr.heap.size, j, none⟩ := by unfold Addr.add; split <;> simp_all
    rw [hp, World.cell?_alloc_mark]
    simpa using hj
  · unfold maxLen; omega
  · simp; omega
  · intro v' w' hown' hg _
    refine h v' w' hown' ?_ ?_
    · refine ((Below.refl base wr).alloc hbase _).grown hg (by simp; omega) ?_
      intro k hk
      rcases hown.2 with ⟨hv, _⟩ | ⟨g, cap, cur, hv, hgb, _⟩
      · rw [hv] at hk; cases hk
      · rw [hv] at hk; cases hk; exact hgb
    · have := hg.size; simp at this; omega
theorem one1 {v : Value} (h : v.oneCell' = true) : ∀ u ∈ (#[v] : Array Value).toList, u.oneCell' = true := by
  intro u hu; simp at hu; rw [hu]; exact h
theorem one2 {v x : Value} (h : v.oneCell' = true) (k : x.oneCell' = true) : ∀ u ∈ (#[v, x] : Array Value).toList, u.oneCell' = true := by
  intro u hu; simp at hu; rcases hu with hu | hu <;> rw [hu] <;> assumption
/-- Bytes as a row of cells. -/
def byteCells (l : List UInt8) : List Value := l.map fun b => .int .u8 (b.toNat : Int)
theorem byteCells_append (l m : List UInt8) : byteCells (l ++ m) = byteCells l ++ byteCells m := by simp [byteCells]
theorem byteCells_length (l : List UInt8) : (byteCells l).length = l.length := by simp [byteCells]
/-- A cell of a row that the call owns. -/
theorem ownsRow_cell {w : World} {base : Nat} {e : TypeId} {v : Value} {n : Nat} {xs : List Value} (h : w.ownsRow base e 1 v n xs) (hx : xs ≠ []) :
    ∃ g cap, v = .slice (some ⟨g, 0, none⟩) n cap ∧ base ≤ g ∧ n ≤ cap ∧ (∀ j u, xs[j]? = some u → w.cell? ⟨g, j, none⟩ = some u) ∧ (∀ j, w.frozen? ⟨g, j, none⟩ = false) := by
  obtain ⟨h1, h2⟩ := h
  rcases h2 with ⟨hv, hn⟩ | ⟨g, cap, cur, hv, hg, hh, hc, hm, hs, ht⟩
  · subst hn; simp at h1; exact absurd h1 hx
  · refine ⟨g, cap, hv, hg, hc, ?_, ?_⟩
    · intro j u hj
      rw [cell_of_row w g j cur e (0, 0) hh]
      rw [← ht, List.getElem?_take] at hj
      split at hj
      · simpa using hj
      · cases hj
    · intro j; exact frozen_of_row w g j cur e hh
/-- 'string(b)' of bytes that the call owns. -/
theorem conv_owned {P : Program} {w : World} {base : Nat} {src dst e : TypeId} {v : Value} {n : Nat} {l : List UInt8} (hs : P.underlying src = some (.slice e)) (he : P.underlying e = some (.int .u8)) (hd : P.underlying dst = some .string)
    (h : w.ownsRow base e 1 v n (byteCells l)) : (convert src dst v).run P w = .ok (.string ⟨l.toArray⟩) w := by
  by_cases hl : l = []
  · subst hl
    obtain ⟨h1, h2⟩ := h
    rcases h2 with ⟨hv, hn⟩ | ⟨g, cap, cur, hv, hg, hh, hc, hm, hsz, ht⟩
    · rw [hv]; exact run_convert_bytes_nil w src e hs he _ _ dst hd
    · have hn : n = 0 := by simpa [byteCells] using h1.symm
      subst hn
      rw [hv]
      exact run_convert_bytes_back w src dst e ⟨g, 0, none⟩ cap [] hs he hd (fun j hj => by cases hj)
  · obtain ⟨g, cap, hv, _, _, hc, _⟩ := ownsRow_cell h (by simpa [byteCells] using hl)
    have hn : n = l.length := by
      have := h.1; simp [byteCells] at this; omega
    subst hn
    rw [hv]
    refine run_convert_bytes_back w src dst e ⟨g, 0, none⟩ cap l hs he hd (fun j hj => ?_)
    have hp : (⟨g, 0, none⟩ : Addr).add j = ⟨g, j, none⟩ := by unfold Addr.add; split <;> simp_all
    rw [hp]
    exact hc j _ (by simp [byteCells, hj])
/-! Pieces of a string, as equations for the walk's context. -/
theorem slice_to {P : Program} {t : TypeId} (ht : P.underlying t = some .string) (s : ByteArray) (n : Int) (k : Nat) (hn : n = k) (hk : k ≤ s.size) :
    ∀ w, (Instr.slice t (.string s) none (some (.int .i64 n)) none).run P w = .ok (.string (s.extract 0 k)) w := fun w => by
  subst hn; exact run_slice_string_h w t s ht .i64 k (by omega) (by omega)
theorem slice_from {P : Program} {t : TypeId} (ht : P.underlying t = some .string) (s : ByteArray) (n : Int) (k : Nat) (hn : n = k) (hk : k ≤ s.size) :
    ∀ w, (Instr.slice t (.string s) (some (.int .i64 n)) none none).run P w = .ok (.string (s.extract k s.size)) w := fun w => by
  subst hn; exact run_slice_string_l w t s ht .i64 k (by omega) (by omega)
theorem slice_mid {P : Program} {t : TypeId} (ht : P.underlying t = some .string) (s : ByteArray) (n m : Int) (k l : Nat) (hn : n = k) (hm : m = l) (hk : k ≤ l) (hl : l ≤ s.size) :
    ∀ w, (Instr.slice t (.string s) (some (.int .i64 n)) (some (.int .i64 m)) none).run P w = .ok (.string (s.extract k l)) w := fun w => by
  subst hn hm; exact run_slice_string w t s .i64 .i64 k l ht (by omega) (by omega) (by omega)
/-- Block B holds the bytes l, whoever reads it: it lies below the heap's end. -/
def Holds (W : World) (B : Nat) (t : TypeId) (l : List UInt8) : Prop := W.heap[B]? = some (.cells (byteCells l).toArray t (0, 0))
theorem Holds.lt {W : World} {B : Nat} {t : TypeId} {l : List UInt8} (h : Holds W B t l) : B < W.heap.size := (Array.getElem?_eq_some_iff.1 h).1
theorem Holds.keep {W W' : World} {B : Nat} {t : TypeId} {l : List UInt8} (h : Holds W B t l) (hb : Below W.heap.size W W') : Holds W' B t l := (hb.block _ h.lt).trans h
theorem Holds.conv {P : Program} {W : World} {B : Nat} {t src dst e : TypeId} {l : List UInt8} (h : Holds W B t l) (hs : P.underlying src = some (.slice e)) (he : P.underlying e = some (.int .u8)) (hd : P.underlying dst = some .string) (n : Nat) (hn : n = l.length) (c : Nat) :
    (convert src dst (.slice (some ⟨B, 0, none⟩) n c)).run P W = .ok (.string ⟨l.toArray⟩) W := by
  subst hn
  refine run_convert_bytes_back W src dst e ⟨B, 0, none⟩ c l hs he hd (fun j hj => ?_)
  have hp : (⟨B, 0, none⟩ : Addr).add j = ⟨B, j, none⟩ := by unfold Addr.add; split <;> simp_all
  rw [hp, cell_of_row W B j _ _ _ h]
  simp [byteCells, hj]
theorem ret_int {k : IntKind} {a b : Int} (h : a = b) : Ending.returned (.int k a) = Ending.returned (.int k b) := by rw [h]
theorem heap_at (w : World) (o : Obj) {n : Nat} (hn : n = w.heap.size) : (w.alloc o).heap[n]? = some o := by subst hn; exact heap_alloc_new w o
theorem heap_past (w : World) (o : Obj) {n : Nat} (hn : n < w.heap.size) : (w.alloc o).heap[n]? = w.heap[n]? := Below.heap_alloc w o n hn
end Go.Proofs.Ytdjgndnllaingaa
