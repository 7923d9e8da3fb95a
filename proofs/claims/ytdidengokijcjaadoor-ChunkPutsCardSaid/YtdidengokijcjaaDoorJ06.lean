/-
  SMALL LAWS OF MY OWN FOR WALKS, OVER ANY PROGRAM.
  A REGION WITHIN A ROUND OF A RANGE OVER A FUNCTION, FROM ITS WALK OUTSIDE: nothing in it is deferred.
  THE STATEMENT 'for .. := range seq { .. }' WHERE THE ITERATOR KEEPS STATE OF ITS OWN IN CELLS, AND THE BODY NEVER LEAVES EARLY: by states s: what holds ahead of the round of s, what holds behind it, what the iterator then writes.
  bits.within, bits.pieces AND ITS ITERATOR.
-/
import Derived.WalkKit
import Derived.WalkSpells
import Derived.WalkLawsBesides
import Derived.Lib.Hide
import Derived.Laws.Rows
import Derived.Maps.AppendAt
import Derived.Laws.BytesArg
import Derived.Laws.IdiomStrings
import Derived.RangeFuncNested
import Derived.RangeFuncBound
import Derived.RangeFuncCalls
import Derived.RangeFuncLeaves
import Derived.TacticsInMore
import Derived.OwnWalkIn
import Derived.LoopIn
import Derived.StillTail
import Derived.StillTailTactics
import Derived.Deep.QuietTactic
import Derived.BigQuiet
import Derived.OrdersHeld
import Derived.Test.YtdidengokijcjaaDoorRows
/-
  SMALL LAWS OF MY OWN FOR WALKS, OVER ANY PROGRAM.
-/
namespace Go.Proofs.YtdidengokijcjaaDoor
open Go.RowKit

theorem below_setRow {B : Nat} {a w : World} (h : Below B a w) {g : Nat} (hg : B ≤ g) (cs : Array Value) : Below B a (w.setRow g cs) :=
  h.trans ⟨rfl, rfl, rfl, by simp, fun k hk => setRow_other w g k cs (by omega)⟩
theorem below_draws {w w1 : World} {n : Nat} (h : Below (w.drewN n).heap.size (w.drewN n) w1) : Below w.heap.size w w1 := ⟨h.os, h.tape, h.output, h.size, h.block⟩
theorem below_draw {w w1 : World} (h : Below w.drew.heap.size w.drew w1) : Below w.heap.size w w1 := ⟨h.os, h.tape, h.output, h.size, h.block⟩
theorem below_drawsB {B : Nat} {w w1 : World} {n : Nat} (h : Below B (w.drewN n) w1) : Below B w w1 := ⟨h.os, h.tape, h.output, h.size, h.block⟩
/-- What was begun later keeps what was there earlier. -/
theorem later {w w1 w2 : World} (h : Below w.heap.size w w1) (h2 : Below w1.heap.size w1 w2) : Below w.heap.size w w2 := h.trans (h2.mono h.size)

/-- A whole array into the variable that was made last: the world has a name behind it. -/
theorem wpList_store_fresh {P : Program} {ops : Array Oper} {rest : List Oper} {o : Oper} {a : Act} {w1 : World} {Q : Exit → Act → World → Prop} (hgd : o.guard = none) (ty : TypeId) (x y : Operand) (ho : o.op = .store ty x y)
    (cells : Array Value) (hx : a.eval x = .pointer (some ⟨w1.heap.size, 0, none⟩)) (hy : a.eval y = .agg cells)
    (t : TypeId) (old : Array Value) (hi : (P.info? ty).map (·.size) = some cells.size)
    (hold : old.size = cells.size) (h1 : cells.all (·.oneCell') = true)
    (h : ∀ w2, Below w1.heap.size w1 w2 → w2.heap[w1.heap.size]? = some (.cells cells t (0, 0)) → w2.heap.size = w1.heap.size + 1 → wpList P ops Q rest (a.put o.dst undef) w2) :
    wpList P ops Q (o :: rest) a (w1.alloc (.cells old t (0, 0))) := by
  refine wpList_store_row hgd ty x y ho w1.heap.size cells hx hy t old (heap_alloc_new w1 _) hi hold h1 (h _ ?_ ?_ ?_)
  · exact below_setRow ((Below.refl _ _).alloc (Nat.le_refl _) _) (Nat.le_refl _) _
  · exact setRow_heap _ _ _ cells _ _ (heap_alloc_new w1 _)
  · simp

/-- What is known of a type: its zero value, how many cells, how many bytes. -/
def Elem (P : Program) (e : TypeId) (z : Value) (size bytes : Nat) : Prop := (P.info? e).map (fun i => (i.zero, i.size, i.bytes)) = some (some z, size, bytes)

/-- 'append(s, x)' of one thing, of however many cells, onto a row of the call's own. -/
theorem wpList_append_one {P : Program} {ops : Array Oper} {rest : List Oper} {o : Oper} {a : Act} {Q : Exit → Act → World → Prop} (hgd : o.guard = none) (s x : Operand) (t : TypeId)
    (ho : o.op = .call { callee := .builtin .append, args := #[s, x], argTypes := #[t, t] })
    (base : Nat) (e : TypeId) (z : Value) (size bytes : Nat) (ht : P.underlying t = some (.slice e)) (he : Elem P e z size bytes) (hzs : z.cells.size = size) (hsz : 0 < size)
    {v : Value} {n : Nat} {xs : List Value} (wr : World) (hown : wr.ownsRow base e size v n xs) (hs : a.eval s = v) (us : Array Value)
    (hx : a.eval x = .slice (some ⟨wr.heap.size, 0, none⟩) 1 1) (hl : us.size = size) (h1 : ∀ u ∈ us.toList, u.oneCell' = true)
    (hbytes : (n + 1) * bytes ≤ 140737488355328) (h63 : n + 1 ≤ 140737488355328) (hbase : base ≤ wr.heap.size)
    (h : ∀ v' w', w'.ownsRow base e size v' (n + 1) (xs ++ us.toList) → Below base wr w' → wr.heap.size < w'.heap.size → wpList P ops Q rest (a.put o.dst v') w') :
    wpList P ops Q (o :: rest) a (wr.alloc (.cells us e (0, 0))) := by
  obtain ⟨i0, hi, hz0, hz1, hz2⟩ := info_parts he
  refine wpList_append_own (w := wr.alloc (.cells us e (0, 0))) hgd s x t ho base e i0 z size bytes ht hi hz0 hz1 hz2 hzs hsz v n xs hs (hown.alloc _) ⟨wr.heap.size, 0, none⟩ 1 1 us.toList hx (by simp [hl]) ?_ h1 ?_ hbytes ?_ ?_
  · intro j u hj
    have hp : (⟨wr.heap.size, 0, none⟩ : Addr).add j = ⟨wr.heap.size, j, none⟩ := by unfold Addr.add; split <;> simp_all
    rw [hp, World.cell?_alloc_mark]
    simpa using hj
  · unfold maxLen; omega
  · simp; omega
  · intro v' w' hown' hg _
    refine h v' w' hown' ?_ ?_
    · refine ((Below.refl base wr).alloc hbase _).grown hg (by simp; omega) ?_
      intro k hk
      rcases hown.2 with ⟨hv, _⟩ | ⟨g, cap, cur, hv, hgb, _⟩
      · rw [hv] at hk; cases hk
      · rw [hv] at hk; cases hk; exact hgb
    · have := hg.size; simp at this; omega
theorem one1 {v : Value} (h : v.oneCell' = true) : ∀ u ∈ (#[v] : Array Value).toList, u.oneCell' = true := by
  intro u hu; simp at hu; rw [hu]; exact h
theorem one2 {v x : Value} (h : v.oneCell' = true) (k : x.oneCell' = true) : ∀ u ∈ (#[v, x] : Array Value).toList, u.oneCell' = true := by
  intro u hu; simp at hu; rcases hu with hu | hu <;> rw [hu] <;> assumption
/-- Bytes as a row of cells. -/
def byteCells (l : List UInt8) : List Value := l.map fun b => .int .u8 (b.toNat : Int)
theorem byteCells_append (l m : List UInt8) : byteCells (l ++ m) = byteCells l ++ byteCells m := by simp [byteCells]
theorem byteCells_length (l : List UInt8) : (byteCells l).length = l.length := by simp [byteCells]
/-- A cell of a row that the call owns. -/
theorem ownsRow_cell {w : World} {base : Nat} {e : TypeId} {v : Value} {n : Nat} {xs : List Value} (h : w.ownsRow base e 1 v n xs) (hx : xs ≠ []) :
    ∃ g cap, v = .slice (some ⟨g, 0, none⟩) n cap ∧ base ≤ g ∧ n ≤ cap ∧ (∀ j u, xs[j]? = some u → w.cell? ⟨g, j, none⟩ = some u) ∧ (∀ j, w.frozen? ⟨g, j, none⟩ = false) := by
  obtain ⟨h1, h2⟩ := h
  rcases h2 with ⟨hv, hn⟩ | ⟨g, cap, cur, hv, hg, hh, hc, hm, hs, ht⟩
  · subst hn; simp at h1; exact absurd h1 hx
  · refine ⟨g, cap, hv, hg, hc, ?_, ?_⟩
    · intro j u hj
      rw [cell_of_row w g j cur e (0, 0) hh]
      rw [← ht, List.getElem?_take] at hj
      split at hj
      · simpa using hj
      · cases hj
    · intro j; exact frozen_of_row w g j cur e hh
/-- 'string(b)' of bytes that the call owns. -/
theorem conv_owned {P : Program} {w : World} {base : Nat} {src dst e : TypeId} {v : Value} {n : Nat} {l : List UInt8} (hs : P.underlying src = some (.slice e)) (he : P.underlying e = some (.int .u8)) (hd : P.underlying dst = some .string)
    (h : w.ownsRow base e 1 v n (byteCells l)) : (convert src dst v).run P w = .ok (.string ⟨l.toArray⟩) w := by
  by_cases hl : l = []
  · subst hl
    obtain ⟨h1, h2⟩ := h
    rcases h2 with ⟨hv, hn⟩ | ⟨g, cap, cur, hv, hg, hh, hc, hm, hsz, ht⟩
    · rw [hv]; exact run_convert_bytes_nil w src e hs he _ _ dst hd
    · have hn : n = 0 := by simpa [byteCells] using h1.symm
      subst hn
      rw [hv]
      exact run_convert_bytes_back w src dst e ⟨g, 0, none⟩ cap [] hs he hd (fun j hj => by cases hj)
  · obtain ⟨g, cap, hv, _, _, hc, _⟩ := ownsRow_cell h (by simpa [byteCells] using hl)
    have hn : n = l.length := by
      have := h.1; simp [byteCells] at this; omega
    subst hn
    rw [hv]
    refine run_convert_bytes_back w src dst e ⟨g, 0, none⟩ cap l hs he hd (fun j hj => ?_)
    have hp : (⟨g, 0, none⟩ : Addr).add j = ⟨g, j, none⟩ := by unfold Addr.add; split <;> simp_all
    rw [hp]
    exact hc j _ (by simp [byteCells, hj])
/-! Pieces of a string, as equations for the walk's context. -/
theorem slice_to {P : Program} {t : TypeId} (ht : P.underlying t = some .string) (s : ByteArray) (n : Int) (k : Nat) (hn : n = k) (hk : k ≤ s.size) :
    ∀ w, (Instr.slice t (.string s) none (some (.int .i64 n)) none).run P w = .ok (.string (s.extract 0 k)) w := fun w => by
  subst hn; exact run_slice_string_h w t s ht .i64 k (by omega) (by omega)
theorem slice_from {P : Program} {t : TypeId} (ht : P.underlying t = some .string) (s : ByteArray) (n : Int) (k : Nat) (hn : n = k) (hk : k ≤ s.size) :
    ∀ w, (Instr.slice t (.string s) (some (.int .i64 n)) none none).run P w = .ok (.string (s.extract k s.size)) w := fun w => by
  subst hn; exact run_slice_string_l w t s ht .i64 k (by omega) (by omega)
theorem slice_mid {P : Program} {t : TypeId} (ht : P.underlying t = some .string) (s : ByteArray) (n m : Int) (k l : Nat) (hn : n = k) (hm : m = l) (hk : k ≤ l) (hl : l ≤ s.size) :
    ∀ w, (Instr.slice t (.string s) (some (.int .i64 n)) (some (.int .i64 m)) none).run P w = .ok (.string (s.extract k l)) w := fun w => by
  subst hn hm; exact run_slice_string w t s .i64 .i64 k l ht (by omega) (by omega) (by omega)
/-- Block B holds the bytes l, whoever reads it: it lies below the heap's end. -/
def Holds (W : World) (B : Nat) (t : TypeId) (l : List UInt8) : Prop := W.heap[B]? = some (.cells (byteCells l).toArray t (0, 0))
theorem Holds.lt {W : World} {B : Nat} {t : TypeId} {l : List UInt8} (h : Holds W B t l) : B < W.heap.size := (Array.getElem?_eq_some_iff.1 h).1
theorem Holds.keep {W W' : World} {B : Nat} {t : TypeId} {l : List UInt8} (h : Holds W B t l) (hb : Below W.heap.size W W') : Holds W' B t l := (hb.block _ h.lt).trans h
theorem Holds.conv {P : Program} {W : World} {B : Nat} {t src dst e : TypeId} {l : List UInt8} (h : Holds W B t l) (hs : P.underlying src = some (.slice e)) (he : P.underlying e = some (.int .u8)) (hd : P.underlying dst = some .string) (n : Nat) (hn : n = l.length) (c : Nat) :
    (convert src dst (.slice (some ⟨B, 0, none⟩) n c)).run P W = .ok (.string ⟨l.toArray⟩) W := by
  subst hn
  refine run_convert_bytes_back W src dst e ⟨B, 0, none⟩ c l hs he hd (fun j hj => ?_)
  have hp : (⟨B, 0, none⟩ : Addr).add j = ⟨B, j, none⟩ := by unfold Addr.add; split <;> simp_all
  rw [hp, cell_of_row W B j _ _ _ h]
  simp [byteCells, hj]
theorem ret_int {k : IntKind} {a b : Int} (h : a = b) : Ending.returned (.int k a) = Ending.returned (.int k b) := by rw [h]
theorem heap_at (w : World) (o : Obj) {n : Nat} (hn : n = w.heap.size) : (w.alloc o).heap[n]? = some o := by subst hn; exact heap_alloc_new w o
theorem heap_past (w : World) (o : Obj) {n : Nat} (hn : n < w.heap.size) : (w.alloc o).heap[n]? = w.heap[n]? := Below.heap_alloc w o n hn
end Go.Proofs.YtdidengokijcjaaDoor
/-
  A REGION WITHIN A ROUND OF A RANGE OVER A FUNCTION, FROM ITS WALK OUTSIDE: nothing in it is deferred.
-/
namespace Go.Proofs.YtdidengokijcjaaDoor
open Go Go.RowKit
/-- No operation defers. -/
def noDefer (l : List Oper) : Bool := l.all fun o => match o.op with | .defer _ => false | _ => true
theorem noDefer_spec {l : List Oper} (h : noDefer l = true) {o : Oper} (ho : o ∈ l) : ∀ c, o.op ≠ .defer c := by
  intro c hc
  have := List.all_eq_true.1 h o ho
  rw [hc] at this
  cases this
variable {P : Program} {ops : Array Oper} {Q : Exit → Act → World → Prop}
theorem uponIn_of_upon {r : Nat} {n : Nat} {o : Oper} {a : Act} {next next' : Act → World → Prop} (hn : ∀ a w, next a w → next' a w) {x : Result Next} (hx : o.upon P a next Q x) : o.uponIn (Fence.wide.inRound r) n P a next' Q x := by
  have hdep : (Fence.wide.inRound r).depth.isSome = true → 1 ≤ n := fun h => by cases h
  cases x with
  | ok y w' =>
    cases y with
    | value v => exact hn _ _ hx
    | skip => exact hn _ _ hx
    | defer d => exact hn _ _ hx
    | enter f args =>
      refine ⟨hdep, CallsIn.inRound r (callsIn_wide.2 ?_)⟩
      have hc : Calls P f args w' _ := hx
      refine hc.mono fun e w'' he => ?_
      cases e with
      | returned v => exact hn _ _ he
      | panicked c => exact he
      | outgrown => exact he
    | row row args =>
      refine ⟨hdep, fun c cs _ => ?_⟩
      have hc : Rows P row args w' _ := hx
      obtain ⟨v, w'', hR, hs⟩ := hc c cs
      exact ⟨v, w'', hn _ _ hR, stepsIn_wide.2 hs⟩
    | _ => exact hx.elim
  | halt y w' =>
    cases y with
    | panic v => exact hx
    | _ => exact hx.elim
theorem wpOpsIn_of_wpOps {r n : Nat} (hQ : ¬ LetsOut Q) (hd : noDefer ops.toList = true) : ∀ (l : List Nat) (a : Act) (w : World), wpOps P ops Q l a w → wpOpsIn (Fence.wide.inRound r) n P ops Q l a w
  | [], a, w, h => h
  | i :: rest, a, w, h => by
    simp only [wpOps] at h
    simp only [wpOpsIn]
    cases ho : ops[i]? with
    | none => rw [ho] at h; exact wpOpsIn_of_wpOps hQ hd rest a w h
    | some o =>
      rw [ho] at h
      have hm : o ∈ ops.toList := by
        have := Array.mem_of_getElem? ho
        simpa using this
      dsimp only at h ⊢
      split at h
      · rename_i hw
        rw [if_pos hw]
        rcases h with h | ⟨_, h⟩
        · refine ⟨fun f _ => trivial, ?_⟩
          rw [show (Fence.wide.inRound r).round = some r from rfl, Oper.semAt_some r a.eval o (noDefer_spec hd hm)]
          exact uponIn_of_upon (fun a w => wpOpsIn_of_wpOps hQ hd rest a w) h
        · exact absurd h hQ
      · rename_i hw
        rw [if_neg hw]
        exact ⟨fun f _ => trivial, wpOpsIn_of_wpOps hQ hd rest _ w h⟩
/-- A region that draws its order, within a round. -/
theorem wpIn_round_any {r n id : Nat} {a : Act} {w : World} (hm : P.follows .mixedOrders = true) (hQ : ¬ LetsOut Q) (hd : noDefer ops.toList = true)
    (h : wpAny P .any ops Q ops.size (Array.replicate ops.size false) a { w with drawn := w.drawn + 1 }) : (Code.region id ops true).wpIn (Fence.wide.inRound r) n P Q a w :=
  wpIn_region_draw fun t => by
    simp only [Region.schedule, hm, Bool.true_or, if_true]
    exact wpOpsIn_of_wpOps hQ hd _ _ _ (wpAny_sound ops.size t _ a _ h)
/-- Reads and quiet calls alone. -/
theorem wpIn_round_quiet {r n id : Nat} {a : Act} {w : World} {l : List Oper} (hm : P.follows .mixedOrders = true) (hB : Region.lexB .any l.toArray = true) (hd : noDefer l = true) (hQ : ¬ LetsOut Q)
    (h : wpQuiet P l.toArray (fun w' => ∃ n, w' = w.drewN n) (fun a' => ∀ w', (∃ n, w' = w.drewN n) → Q .normal a' w') l a) : (Code.region id l.toArray true).wpIn (Fence.wide.inRound r) n P Q a w := by
  simp only [Region.lexB, Bool.and_eq_true] at hB
  refine wpIn_round_any hm hQ (by simpa using hd) (wpAny_of_quiet (C := fun w' => ∃ n, w' = w.drewN n) (Q := fun a' => ∀ w', (∃ n, w' = w.drewN n) → Q .normal a' w') (fun _ w' hw' h => h w' hw') _ _ _ _ ⟨1, rfl⟩ ?_)
  have := wpAnyQ_lex (C := fun w' => ∃ n, w' = w.drewN n) (md := .any) hB.1 l 0 (Array.replicate l.toArray.size false) a (by simp) (by simpa using hB.2) h
  simpa using this
/-- Reads and quiet calls, and behind them what writes, one by one. -/
theorem wpIn_round_still_tail {r n0 id : Nat} {a : Act} {w : World} {l : List Oper} (n : Nat) (hm : P.follows .mixedOrders = true) (hB : Region.lexTailB .any l.toArray n = true) (hd : noDefer l = true) (hQ : ¬ LetsOut Q)
    (h : wpStill P l.toArray { w with drawn := w.drawn + 1 } (fun a' => wpList P l.toArray Q (l.drop n) a' { w with drawn := w.drawn + 1 }) (l.take n) a) : (Code.region id l.toArray true).wpIn (Fence.wide.inRound r) n0 P Q a w := by
  simp only [Region.lexTailB, Bool.and_eq_true, decide_eq_true_eq] at hB
  obtain ⟨⟨⟨⟨hsel, hn⟩, hs⟩, hc⟩, hlex⟩ := hB
  have hn' : n < l.length := by simpa using hn
  have htl : (l.take n).length = n := by simp; omega
  have hdl : (l.drop n).length = l.toArray.size - n := by simp
  have inv0 : HeadInv .any l.toArray n (Array.replicate l.toArray.size false) :=
    ⟨by simp, fun j oj _ hl => (by rw [getD_replicate_false] at hl; cases hl), fun t _ ht => getD_in (by simpa using ht) (getD_replicate_false _ _)⟩
  have H := wpAnyL_lex (md := .any) (g := l.toArray.size - n) hsel hs hc hn (l.take n) 0 _ a (fun j hj => by
    have hj' : j < n := by rw [htl] at hj; exact hj
    simp [hj']) (by simpa using htl) inv0 (by rw [htl]; exact hlex) h
  refine wpIn_round_any hm hQ (by simpa using hd) ?_
  have := wpAny_of_head (Q' := Q) (g := l.toArray.size - n) (fun listed a' hL => by
    have := wpAny_of_seq (md := .any) (Q' := Q) (l.drop n) n listed a' { w with drawn := w.drawn + 1 } (fun j => by simp [List.getElem?_drop]) (by rw [hdl]; exact hL.1) hL.2
    rwa [hdl] at this) _ _ _ H
  rw [htl, show n + (l.toArray.size - n) = l.toArray.size by omega] at this
  exact this
/-- A region in the order of the text, within a round. -/
theorem wpIn_round_plain {r n id : Nat} {a : Act} {w : World} {l : List Oper} (hd : noDefer l = true) (hQ : ¬ LetsOut Q)
    (h : wpOps P l.toArray Q (List.range l.toArray.size) a w) : (Code.region id l.toArray false).wpIn (Fence.wide.inRound r) n P Q a w :=
  wpIn_region (wpOpsIn_of_wpOps hQ (by simpa using hd) _ _ _ h)
/-- What is asked where a region may end normally alone. -/
def Nrm (Q : Exit → Act → World → Prop) : Exit → Act → World → Prop
  | .normal, a, w => Q .normal a w
  | _, _, _ => False
theorem Nrm.imp {Q : Exit → Act → World → Prop} : ∀ e a w, Nrm Q e a w → Q e a w
  | .normal, _, _, h => h
theorem Nrm.normal {Q : Exit → Act → World → Prop} {a : Act} {w : World} (h : Q .normal a w) : Nrm Q .normal a w := h
theorem Nrm.noOut {Q : Exit → Act → World → Prop} : ¬ LetsOut (Nrm Q) := fun ⟨_, _, h⟩ => h
theorem Nrm.panic {Q : Exit → Act → World → Prop} {a b : Act} : ∀ c (w : World), Nrm Q (.panic c) a w → Nrm Q (.panic c) b w := fun _ _ h => h.elim
theorem wpIn_round_quiet' {r n id : Nat} {a : Act} {w : World} {l : List Oper} (hm : P.follows .mixedOrders = true) (hB : Region.lexB .any l.toArray = true) (hd : noDefer l = true)
    (h : wpQuiet P l.toArray (fun w' => ∃ n, w' = w.drewN n) (fun a' => ∀ w', (∃ n, w' = w.drewN n) → Q .normal a' w') l a) : (Code.region id l.toArray true).wpIn (Fence.wide.inRound r) n P Q a w :=
  Code.wpIn_mono Nrm.imp (wpIn_round_quiet (Q := Nrm Q) hm hB hd Nrm.noOut h)
theorem wpIn_round_still_tail' {r n0 id : Nat} {a : Act} {w : World} {l : List Oper} (n : Nat) (hm : P.follows .mixedOrders = true) (hB : Region.lexTailB .any l.toArray n = true) (hd : noDefer l = true)
    (h : wpStill P l.toArray w.drew (fun a' => wpList P l.toArray (Nrm Q) (l.drop n) a' w.drew) (l.take n) a) : (Code.region id l.toArray true).wpIn (Fence.wide.inRound r) n0 P Q a w :=
  Code.wpIn_mono Nrm.imp (wpIn_round_still_tail (Q := Nrm Q) n hm hB hd Nrm.noOut h)
/-- Whatever the order: by what holds of the world all the while. -/
theorem wpIn_round_held {S : World → Prop} {r n id : Nat} {a : Act} {w : World} (hm : P.follows .mixedOrders = true) (hd : noDefer ops.toList = true)
    (h : wpAnyH P .any ops (Nrm Q) S ops.size (Array.replicate ops.size false) a w.drew) : (Code.region id ops true).wpIn (Fence.wide.inRound r) n P Q a w :=
  Code.wpIn_mono Nrm.imp (wpIn_round_any (Q := Nrm Q) hm Nrm.noOut hd (wpAny_of_held _ _ _ _ h))
/-- One operation that comes up now: taken first. -/
theorem held_take {S : World → Prop} (i : Nat) {oi : Oper} (v : Value) {fuel : Nat} {listed : Array Bool} {a : Act} {w : World} (hi : ops[i]? = some oi)
    (hs : Region.noSelect ops = true) (hf : Region.free .any ops listed i = true) (hr : (Region.ready .any ops listed).contains i = true) (hg : oi.guard = none)
    (hy : ∀ w, S w → (execOp a.eval oi).run P w = .ok (.value v) w) (hS : S w)
    (h : wpAnyH P .any ops (Nrm Q) S fuel (listed.setIfInBounds i true) (a.put oi.dst v) w) : wpAnyH P .any ops (Nrm Q) S (fuel + 1) listed a w :=
  wpAnyH_take hi hs hf hr (fun _ _ _ h => h.elim) (.inl ⟨by simp [Region.wanted, hg], hy⟩) hS h
/-- The one operation that may come up. -/
theorem held_one {S : World → Prop} (i : Nat) {oi : Oper} {fuel : Nat} {listed : Array Bool} {a : Act} {w : World} (hi : ops[i]? = some oi) (hr : Region.ready .any ops listed = [i]) (hg : oi.guard = none)
    (h : oi.wp P a w (fun a' w' => S w' ∧ wpAnyH P .any ops (Nrm Q) S fuel (listed.setIfInBounds i true) a' w') (Nrm Q)) : wpAnyH P .any ops (Nrm Q) S (fuel + 1) listed a w :=
  wpAnyH_all hr (by simp) (fun j hj => by
    obtain rfl : j = i := by simpa using hj
    unfold wpOp
    simp only [hi]
    rw [if_pos (by simp [Region.wanted, hg])]
    exact .inl h)
end Go.Proofs.YtdidengokijcjaaDoor
/-
  THE STATEMENT 'for .. := range seq { .. }' WHERE THE ITERATOR KEEPS STATE OF ITS OWN IN CELLS, AND THE BODY NEVER LEAVES EARLY: by states s: what holds ahead of the round of s, what holds behind it, what the iterator then writes.
-/
namespace Go.Proofs.YtdidengokijcjaaDoor
open Go Go.RowKit
/-- Whatever is no cells, at or beyond B, lies as it lay. -/
structure KeepsNon (B : Nat) (W W' : World) : Prop where
  size : W.heap.size ≤ W'.heap.size
  same : ∀ (k : Nat) (o : Obj), B ≤ k → W.heap[k]? = some o → o.isCells = false → W'.heap[k]? = some o
theorem KeepsNon.refl (B : Nat) (W : World) : KeepsNon B W W := ⟨Nat.le_refl _, fun _ _ _ h _ => h⟩
theorem KeepsNon.trans {X : Nat} {A B C : World} (h : KeepsNon X A B) (k : KeepsNon X B C) : KeepsNon X A C :=
  ⟨Nat.le_trans h.size k.size, fun i o hi ho hc => k.same i o hi (h.same i o hi ho hc) hc⟩
theorem KeepsNon.of_others {B : Nat} {W W' : World} (h : KeepsOthers W W') : KeepsNon B W W' := ⟨h.size, fun k o _ hk ho => h.same k o hk ho⟩
theorem KeepsNon.setCell (B : Nat) (W : World) (a : Addr) (v : Value) : KeepsNon B W (W.setCell a v) := .of_others (KeepsOthers.setCell W a v)
theorem KeepsNon.alloc (B : Nat) (W : World) (o : Obj) : KeepsNon B W (W.alloc o) := .of_others (KeepsOthers.alloc W o)
theorem KeepsNon.drew (B : Nat) (W : World) : KeepsNon B W W.drew := .of_others (KeepsOthers.drew W)
theorem KeepsNon.drewN (B : Nat) (W : World) (n : Nat) : KeepsNon B W (W.drewN n) := ⟨Nat.le_refl _, fun _ _ _ h _ => h⟩
theorem KeepsNon.below {B : Nat} {W W' : World} (h : Below W.heap.size W W') : KeepsNon B W W' :=
  ⟨h.size, fun k _ _ hk _ => (h.block k (Array.getElem?_eq_some_iff.1 hk).1).trans hk⟩

/-- AN ITERATOR BY ITS STATES. own: what it needs of its own cells ahead of a round and behind it; begun: what it does ahead of the first round; stepped: what it does behind a round. -/
def Iter {σ : Type} (P : Program) (gf : FuncId) (lb : Array Value) (encs : σ → Array Value) (more : σ → Prop) (next : σ → σ) (s0 : σ) (own : σ → World → Prop) (begins : World → Prop) (begun : World → World) (stepped : σ → World → World) : Prop :=
  ∀ (l n : Nat) (J J' : σ → World → Prop), (∀ s W, J s W → own s W) → (∀ s W, J' s W → own s W) → (∀ s W, more s → J' s W → J (next s) (stepped s W)) →
    (∀ s W, more s → J s W → YieldAt Fence.wide (n - 1) P l (encs s) W fun e W' => e = .returned (.bool true) ∧ J' s W') →
    ∀ W, begins W → J s0 (begun W) → CallsIn Fence.wide n P gf (#[.func (.yield l) #[] #[]] ++ lb) W fun e W' => (∃ v, e = .returned v) ∧ ∃ s, ¬ more s ∧ J s W'

/-- How the body is left. -/
def stPost {σ : Type} (B : Nat) (I' : σ → World → Prop) (s : σ) (W : World) : Exit → Act → World → Prop
  | .normal, _, W' => KeepsNon B W W' ∧ I' s W'
  | _, _, _ => False
theorem stPost_noOut {σ : Type} {B : Nat} {I' : σ → World → Prop} {s : σ} {W : World} : ¬ LetsOut (stPost B I' s W) := fun ⟨_, _, h⟩ => h

theorem wpIn_rangeFunc_st {σ : Type} {P : Program} {n : Nat} {g : Operand} {ps : Array Tmp} {assign body : Code} {Q : Exit → Act → World → Prop} {a : Act} {w : World}
    {gf : Nat} {lb : Array Value} (hg : a.eval g = .func (.func gf) #[] lb) (eg : ∀ args w, (callFunc gf args).run P w = .ok (.enter gf args) w)
    {encs : σ → Array Value} {more : σ → Prop} {next : σ → σ} {s0 : σ} {own : σ → World → Prop} {begins : World → Prop} {begun : World → World} {stepped : σ → World → World}
    (hit : Iter P gf lb encs more next s0 own begins begun stepped) (hps : ∀ s, (encs s).size = ps.size)
    (hk0 : ∀ W, KeepsNon w.heap.size W (begun W)) (hks : ∀ s W, KeepsNon w.heap.size W (stepped s W))
    (I I' : σ → World → Prop) (hown : ∀ s W, I s W → own s W) (hown' : ∀ s W, I' s W → own s W) (hstep : ∀ s W, more s → I' s W → I (next s) (stepped s W))
    (hI : ∀ s W l o o', I s W → w.heap.size ≤ l → W.heap[l]? = some o → o.isCells = false → I s (W.putObj l o'))
    (hI' : ∀ s W l o o', I' s W → w.heap.size ≤ l → W.heap[l]? = some o → o.isCells = false → I' s (W.putObj l o'))
    (hb0 : ∀ o1 o2, begins ((w.alloc o1).alloc o2)) (h0 : ∀ o1 o2, o1.isCells = false → o2.isCells = false → I s0 (begun ((w.alloc o1).alloc o2))) (a₁ : σ → Act)
    (hassign : ∀ (l m : Nat) (s : σ) (W : World) (K : Act → World → Prop), K (a₁ s) W →
      assign.wpIn (Fence.wide.inRound l) m P (Exit.then K (fun _ _ _ => False)) { tmps := (ps.zip (encs s)).foldl (fun t (p, v) => t.setIfInBounds p v) a.tmps, defers := [] } W)
    (hbody : ∀ (l m : Nat) (s : σ) (W : World), more s → I s W → body.wpIn (Fence.wide.inRound l) m P (stPost w.heap.size I' s W) (a₁ s) W)
    (hdone : ∀ (D : Nat) (s : σ) (W : World), w.heap.size ≤ D → ¬ more s → I s W → W.heap[D]? = some (.deferred (some [])) → Q .normal { a with defers := { target := .collected D, args := #[] } :: a.defers } W) :
    (Code.rangeFunc g ps assign body).wpIn Fence.wide n P Q a w := by
  refine wpIn_rangeFunc ?_
  intro fn hfn
  rw [show Fence.wide.round = none from rfl]
  obtain ⟨rec, hrec⟩ : ∃ rec : LoopState → Option Code → Loop, rec = fun st pe => { state := st, pending := pe, fn, tmps := a.tmps, params := ps, assign, body, defers := w.heap.size } := ⟨_, rfl⟩
  obtain ⟨W1, hW1⟩ : ∃ W1, (w.alloc (.deferred (some []))).alloc (.loop (rec .ready none)) = W1 := ⟨_, rfl⟩
  have hL1 : W1.heap[w.heap.size + 1]? = some (.loop (rec .ready none)) := by
    rw [← hW1]; have := World.alloc_heap_new (w.alloc (.deferred (some []))) (.loop (rec .ready none)); rwa [World.size_alloc] at this
  have hK1 : W1.heap[w.heap.size]? = some (.deferred (some [])) := by
    rw [← hW1]; exact (Below.heap_alloc _ _ _ (by simp)).trans (World.alloc_heap_new w _)
  have hI1 : I s0 (begun W1) := by rw [← hW1]; exact h0 _ _ rfl rfl
  have hB1 : begins W1 := by rw [← hW1]; exact hb0 _ _
  refine ⟨w.heap.size + 1, [{ target := .collected w.heap.size, args := #[] }], W1, { target := .fn (.func gf) lb, args := #[.func (.yield (w.heap.size + 1)) #[] #[]] }, W1, gf,
    #[.func (.yield (w.heap.size + 1)) #[] #[]] ++ lb, W1, ?_, ?_, ?_, ?_, (fun h => by cases h), ?_⟩
  · rw [← hW1, hrec]; exact run_enterLoop_outer _ _ _ _ _
  · simp only [resolve, hg]
    simp [go_sem]
  · intro f' _; trivial
  · simp [invoke, go_sem, eg]
  · refine (hit (w.heap.size + 1) (n - 1)
      (fun s W => I s W ∧ W.heap[w.heap.size + 1]? = some (.loop (rec .ready none)) ∧ W.heap[w.heap.size]? = some (.deferred (some [])))
      (fun s W => I' s W ∧ W.heap[w.heap.size + 1]? = some (.loop (rec .ready none)) ∧ W.heap[w.heap.size]? = some (.deferred (some [])))
      (fun s W h => hown s W h.1) (fun s W h => hown' s W h.1)
      (fun s W hm h => ⟨hstep s W hm h.1, (hks s W).same _ _ (by omega) h.2.1 rfl, (hks s W).same _ _ (Nat.le_refl _) h.2.2 rfl⟩)
      ?_ W1 hB1 ⟨hI1, (hk0 W1).same _ _ (by omega) hL1 rfl, (hk0 W1).same _ _ (Nat.le_refl _) hK1 rfl⟩).mono ?_
    · rintro s W hm ⟨hi, hl, hk⟩
      have hlt : w.heap.size + 1 < W.heap.size := (Array.getElem?_eq_some_iff.1 hl).1
      have hy := run_yield (P := P) (args := encs s) hl (by rw [hrec]; simp [hps])
      rw [hrec] at hy
      refine ⟨fn, _, assign, body, hy, roundIn_of_wpIn hfn (hassign _ _ s W _ ⟨_, run_beginRound hl (by rw [hrec]), ?_⟩)⟩
      have hl2 : (W.putObj (w.heap.size + 1) (.loop { rec .ready none with state := .busy })).heap[w.heap.size + 1]? = some (.loop { rec .ready none with state := .busy }) := World.putObj_heap_same hlt
      have hk2 : (W.putObj (w.heap.size + 1) (.loop { rec .ready none with state := .busy })).heap[w.heap.size]? = some (.deferred (some [])) := (World.putObj_heap_other (by omega)).trans hk
      refine Code.wpIn_mono ?_ (hbody _ _ s _ hm (hI s W _ _ _ hi (by omega) hl rfl))
      rintro e a3 W3 hp
      cases e with
      | normal =>
        obtain ⟨hk3, hi3⟩ := hp
        have hl3 := hk3.same _ _ (by omega) hl2 rfl
        have hk3' := hk3.same _ _ (Nat.le_refl _) hk2 rfl
        have hr := run_endRound (P := P) none hl3
        rw [hrec] at hr
        refine ⟨_, _, hr, rfl, hI' s W3 _ _ _ hi3 (by omega) hl3 rfl, ?_, (World.putObj_heap_other (by omega)).trans hk3'⟩
        rw [hrec]
        exact World.putObj_heap_same (Array.getElem?_eq_some_iff.1 hl3).1
      | _ => exact hp.elim
    · rintro e W2 ⟨⟨v, rfl⟩, s, hm, hi, hl, hk⟩
      exact ⟨none, _, by have := run_endLoop (P := P) hl (by rw [hrec]; simp); rw [hrec] at this; exact this, hdone _ s _ (Nat.le_refl _) hm (hI s _ _ _ _ hi (by omega) hl rfl) ((World.putObj_heap_other (by omega)).trans hk)⟩
theorem wide_fn (f : FuncId) : Fence.wide.fn f = True := rfl
theorem wide_depth : (Fence.wide.depth.isSome = true) = False := by simp [Fence.wide]
theorem wide_fn_in (l : Nat) (f : FuncId) : (Fence.wide.inRound l).fn f = True := rfl
theorem wide_depth_in (l : Nat) : ((Fence.wide.inRound l).depth.isSome = true) = False := by simp [Fence.wide, Fence.inRound]
end Go.Proofs.YtdidengokijcjaaDoor
/-
  bits.within, bits.pieces AND ITS ITERATOR.
-/
namespace Go.Proofs.YtdidengokijcjaaDoor.BitsW
open Go.RowKit
attribute [local go_sem] Oper.semAt_some wide_fn wide_depth wide_fn_in wide_depth_in
/-- How many bits may be at once. -/
def within (n : Int) : Nat := (min (max n 0) 64).toNat
theorem within_le (n : Int) : within n ≤ 64 := by unfold within; omega
theorem within_cast (n : Int) : ((within n : Nat) : Int) = min (max n 0) 64 := by unfold within; omega
set_option maxHeartbeats 400000 in
theorem within_any (n : Int) (w : World) :
    Calls Tryd.prog 94 #[.int .i64 n] w fun e w' => e = .returned (.int .i64 (within n : Nat)) ∧ w = w' := by
  go_enter Tryd.func94, Tryd.ntmps94
  by_cases h0 : n < 0
  · go_wp2
    go_ret
    exact ⟨ret_int (by rw [within_cast]; omega), rfl⟩
  · by_cases h1 : 64 < n
    · go_wp2
      go_ret
      exact ⟨ret_int (by rw [within_cast]; omega), rfl⟩
    · go_wp2
      go_ret
      exact ⟨ret_int (by rw [within_cast]; omega), rfl⟩
set_option maxHeartbeats 400000 in
theorem pieces_any (f n : Int) (w : World) :
    Calls Tryd.prog 95 #[.int .i64 f, .int .i64 n] w fun e w' => e = .returned (.func (.func 98) #[] #[.pointer (some ⟨w.heap.size + 1, 0, none⟩), .pointer (some ⟨w.heap.size, 0, none⟩)]) ∧ (w.alloc (.cells #[.int .i64 f] 3)).alloc (.cells #[.int .i64 n] 3) = w' := by
  go_enter Tryd.func95, Tryd.ntmps95
  go_wp2
  go_ret
  exact ⟨rfl, rfl⟩
/-- The states of the cut: at which bit, and how many are left. -/
def take (s : Nat × Nat) : Nat := min s.2 (8 - s.1 % 8)
def pcNext (s : Nat × Nat) : Nat × Nat := (s.1 + take s, s.2 - take s)
def pcEncs (s : Nat × Nat) : Array Value := #[.int .i64 ((s.1 % 8 : Nat) : Int), .int .i64 ((take s : Nat) : Int)]
def pcMore (s : Nat × Nat) : Prop := 0 < s.2
def pcOwn (bf bn : Nat) (s : Nat × Nat) (W : World) : Prop := s.1 + s.2 ≤ 1099511627776 ∧ s.2 ≤ 64 ∧
  W.cell? ⟨bf, 0, none⟩ = some (.int .i64 ((s.1 : Nat) : Int)) ∧ W.frozen? ⟨bf, 0, none⟩ = false ∧ W.cell? ⟨bn, 0, none⟩ = some (.int .i64 ((s.2 : Nat) : Int)) ∧ W.frozen? ⟨bn, 0, none⟩ = false
def pcBegins (bn : Nat) (n0 : Int) (W : World) : Prop := W.cell? ⟨bn, 0, none⟩ = some (.int .i64 n0) ∧ W.frozen? ⟨bn, 0, none⟩ = false
def pcBegun (bn : Nat) (n0 : Int) (W : World) : World := W.setCell ⟨bn, 0, none⟩ (.int .i64 (within n0 : Nat))
def pcStepped (bf bn : Nat) (s : Nat × Nat) (W : World) : World := (W.setCell ⟨bf, 0, none⟩ (.int .i64 (((pcNext s).1 : Nat) : Int))).setCell ⟨bn, 0, none⟩ (.int .i64 (((pcNext s).2 : Nat) : Int))
set_option maxHeartbeats 1000000 in
theorem pieces_iter (bf bn f0 : Nat) (n0 : Int) (hne : bf ≠ bn) :
    Iter Tryd.prog 98 #[.pointer (some ⟨bn, 0, none⟩), .pointer (some ⟨bf, 0, none⟩)] pcEncs pcMore pcNext (f0, within n0) (pcOwn bf bn) (pcBegins bn n0) (pcBegun bn n0) (pcStepped bf bn) := by
  intro l n J J' hJ hJ' hS hY W hW h0
  obtain ⟨hc, hf⟩ := hW
  have H0 := Lib.hid h0
  clear h0
  refine callsIn_of_wp Tryd.func98 rfl trivial ?_ rfl
  simp only [Tryd.ntmps98, List.size_toArray, List.length_cons, List.length_nil, Nat.reduceAdd, Nat.reduceSub, Array.replicate_succ, Array.replicate_zero, List.push_toArray, List.append_toArray, List.nil_append, List.cons_append]
  gi_wp2_with (gi_at_call 94; refine (callsIn_wide.2 (within_any _ _)).mono ?_; rintro e w' ⟨rfl, rfl⟩)
  rw [show W.setCell ⟨bn, 0, none⟩ (.int .i64 (within n0 : Nat)) = pcBegun bn n0 W from rfl]
  generalize hW1 : pcBegun bn n0 W = W1 at *
  clear hW1 hc hf
  gi_loopw [4, 5] (fun _ _ wr => ∃ f m : Nat, J (f, m) wr) (fun _ _ wr => match wr.cell? ⟨bn, 0, none⟩ with | some v => (intOf v).toNat | none => 0)
  case atStart => exact ⟨_, _, H0.out⟩
  case round =>
    obtain ⟨f, m, hj⟩ := hrel
    obtain ⟨o1, o2, o3, o4, o5, o6⟩ := hJ _ _ hj
    simp only [] at o1 o2 o3 o5
    have HJ := Lib.hid hj
    by_cases hm : m = 0
    · subst hm
      clear hj
      gi_wp2
      go_end0
      exact ⟨⟨_, rfl⟩, (f, 0), by simp [pcMore], HJ.out⟩
    · have hpos : 0 < m := by omega
      have hmi : (0 : Int) < (m : Int) := by omega
      obtain ⟨fn, tmps, assign, body, hy, hR⟩ := hY _ _ (show pcMore (f, m) from hpos) hj
      clear hj
      have ht0 : 0 < take (f, m) := by unfold take; simp only []; omega
      have ht1 : take (f, m) ≤ m := by unfold take; simp only []; omega
      have hlast : ∀ (W' : World), J' (f, m) W' → ∀ (tv : Int), tv = (take (f, m) : Nat) →
          (∃ f' m' : Nat, J (f', m') ((W'.setCell ⟨bf, 0, none⟩ (.int .i64 ((f : Int) + tv))).setCell ⟨bn, 0, none⟩ (.int .i64 ((m : Int) - tv)))) ∧
          (match ((W'.setCell ⟨bf, 0, none⟩ (.int .i64 ((f : Int) + tv))).setCell ⟨bn, 0, none⟩ (.int .i64 ((m : Int) - tv))).cell? ⟨bn, 0, none⟩ with | some v => (intOf v).toNat | none => 0) < (match wr.cell? ⟨bn, 0, none⟩ with | some v => (intOf v).toNat | none => 0) := by
        intro W' hj' tv htv
        have e : (W'.setCell ⟨bf, 0, none⟩ (.int .i64 ((f : Int) + tv))).setCell ⟨bn, 0, none⟩ (.int .i64 ((m : Int) - tv)) = pcStepped bf bn (f, m) W' := by
          unfold pcStepped pcNext
          rw [show ((f : Int) + tv) = ((f + take (f, m) : Nat) : Int) by omega, show ((m : Int) - tv) = ((m - take (f, m) : Nat) : Int) by omega]
        rw [e]
        have hjn := hS _ _ (show pcMore (f, m) from hpos) hj'
        have hown := hJ _ _ hjn
        refine ⟨⟨_, _, hjn⟩, ?_⟩
        rw [hown.2.2.2.2.1, o5]
        show (intOf (.int .i64 (((m - take (f, m) : Nat)) : Int))).toNat < (intOf (.int .i64 (m : Int))).toNat
        simp only [intOf]
        omega
      have HL := Lib.hid hlast
      clear hlast
      by_cases hmt : (8 : Int) - (f : Int) % 8 < (m : Int)
      · have ht : 8 - (f : Int) % 8 = (take (f, m) : Nat) := by unfold take; simp only []; omega
        have e : pcEncs (f, m) = #[.int .i64 ((f : Int) % 8), .int .i64 (8 - (f : Int) % 8)] := by
          show (#[.int .i64 ((f % 8 : Nat) : Int), .int .i64 ((take (f, m) : Nat) : Int)] : Array Value) = _
          rw [← ht, show ((f % 8 : Nat) : Int) = (f : Int) % 8 from by omega]
        rw [e] at hy
        have HT := Lib.hid ht
        clear e ht
        gi_wp2
        refine hR.mono ?_
        rintro e W' ⟨rfl, hj'⟩
        obtain ⟨p1, p2, p3, p4, p5, p6⟩ := hJ' _ _ hj'
        simp only [] at p3 p5
        have hl := HL.out W' hj' _ HT.out
        have HL2 := Lib.hid hl
        clear hl hj' hy o3 o4 o5 o6
        gi_wp2
        exact HL2.out
      · have ht : (m : Int) = (take (f, m) : Nat) := by unfold take; simp only []; omega
        have e : pcEncs (f, m) = #[.int .i64 ((f : Int) % 8), .int .i64 (m : Int)] := by
          show (#[.int .i64 ((f % 8 : Nat) : Int), .int .i64 ((take (f, m) : Nat) : Int)] : Array Value) = _
          rw [← ht, show ((f % 8 : Nat) : Int) = (f : Int) % 8 from by omega]
        rw [e] at hy
        have HT := Lib.hid ht
        clear e ht
        gi_wp2
        refine hR.mono ?_
        rintro e W' ⟨rfl, hj'⟩
        obtain ⟨p1, p2, p3, p4, p5, p6⟩ := hJ' _ _ hj'
        simp only [] at p3 p5
        have hl := HL.out W' hj' _ HT.out
        have HL2 := Lib.hid hl
        clear hl hj' hy o3 o4 o5 o6
        gi_wp2
        rw [show (0 : Int) = (m : Int) - (m : Int) by omega]
        exact HL2.out
end Go.Proofs.YtdidengokijcjaaDoor.BitsW
