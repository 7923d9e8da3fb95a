/-
  THE STATEMENT 'for .. := range seq { .. }' WHERE THE ITERATOR KEEPS STATE OF ITS OWN IN CELLS, AND THE BODY NEVER LEAVES EARLY: by states s: what holds ahead of the round of s, what holds behind it, what the iterator then writes.
  THE STATEMENT 'for .. := range seq { .. }' WHERE THE ITERATOR WORKS BETWEEN ITS ROUNDS, AND THE BODY NEVER LEAVES EARLY: by states, and what its work leaves.
  match.each, match.Select: THE WALKS.
  match.Select: THE WALK.
-/
import Derived.Test.YtdjgndnllaingaaJ12
import Derived.Test.YtdjgndnllaingaaJ08
import Derived.RangeFuncNested
import Derived.RangeFuncBound
import Derived.RangeFuncCalls
import Derived.RangeFuncLeaves
import Derived.Shelf.RegionOpen
import Derived.OwnWalkIn
import Derived.TacticsInMore
import Derived.LoopNIn
import Derived.LoopIn
import Derived.RangeFuncBox
import Derived.Maps.AppendAt
/-
  THE STATEMENT 'for .. := range seq { .. }' WHERE THE ITERATOR KEEPS STATE OF ITS OWN IN CELLS, AND THE BODY NEVER LEAVES EARLY: by states s: what holds ahead of the round of s, what holds behind it, what the iterator then writes.
-/
namespace Go.Proofs.Ytdjgndnllaingaa
open Go Go.RowKit
/-- Whatever is no cells, at or beyond B, lies as it lay. -/
structure KeepsNon (B : Nat) (W W' : World) : Prop where
  size : W.heap.size ≤ W'.heap.size
  same : ∀ (k : Nat) (o : Obj), B ≤ k → W.heap[k]? = some o → o.isCells = false → W'.heap[k]? = some o
theorem KeepsNon.refl (B : Nat) (W : World) : KeepsNon B W W := ⟨Nat.le_refl _, fun _ _ _ h _ => h⟩
theorem KeepsNon.trans {X : Nat} {A B C : World} (h : KeepsNon X A B) (k : KeepsNon X B C) : KeepsNon X A C :=
  ⟨Nat.le_trans h.size k.size, fun i o hi ho hc => k.same i o hi (h.same i o hi ho hc) hc⟩
theorem KeepsNon.of_others {B : Nat} {W W' : World} (h : KeepsOthers W W') : KeepsNon B W W' := ⟨h.size, fun k o _ hk ho => h.same k o hk ho⟩
theorem KeepsNon.setCell (B : Nat) (W : World) (a : Addr) (v : Value) : KeepsNon B W (W.setCell a v) := .of_others (KeepsOthers.setCell W a v)
theorem KeepsNon.alloc (B : Nat) (W : World) (o : Obj) : KeepsNon B W (W.alloc o) := .of_others (KeepsOthers.alloc W o)
theorem KeepsNon.drew (B : Nat) (W : World) : KeepsNon B W W.drew := .of_others (KeepsOthers.drew W)
theorem KeepsNon.drewN (B : Nat) (W : World) (n : Nat) : KeepsNon B W (W.drewN n) := ⟨Nat.le_refl _, fun _ _ _ h _ => h⟩
theorem KeepsNon.below {B : Nat} {W W' : World} (h : Below W.heap.size W W') : KeepsNon B W W' :=
  ⟨h.size, fun k _ _ hk _ => (h.block k (Array.getElem?_eq_some_iff.1 hk).1).trans hk⟩

/-- AN ITERATOR BY ITS STATES. own: what it needs of its own cells ahead of a round and behind it; begun: what it does ahead of the first round; stepped: what it does behind a round. -/
def Iter {σ : Type} (P : Program) (gf : FuncId) (lb : Array Value) (encs : σ → Array Value) (more : σ → Prop) (next : σ → σ) (s0 : σ) (own : σ → World → Prop) (begins : World → Prop) (begun : World → World) (stepped : σ → World → World) : Prop :=
  ∀ (l n : Nat) (J J' : σ → World → Prop), (∀ s W, J s W → own s W) → (∀ s W, J' s W → own s W) → (∀ s W, more s → J' s W → J (next s) (stepped s W)) →
    (∀ s W, more s → J s W → YieldAt Fence.wide (n - 1) P l (encs s) W fun e W' => e = .returned (.bool true) ∧ J' s W') →
    ∀ W, begins W → J s0 (begun W) → CallsIn Fence.wide n P gf (#[.func (.yield l) #[] #[]] ++ lb) W fun e W' => (∃ v, e = .returned v) ∧ ∃ s, ¬ more s ∧ J s W'

/-- How the body is left. -/
def stPost {σ : Type} (B : Nat) (I' : σ → World → Prop) (s : σ) (W : World) : Exit → Act → World → Prop
  | .normal, _, W' => KeepsNon B W W' ∧ I' s W'
  | _, _, _ => False
theorem stPost_noOut {σ : Type} {B : Nat} {I' : σ → World → Prop} {s : σ} {W : World} : ¬ LetsOut (stPost B I' s W) := fun ⟨_, _, h⟩ => h

theorem wpIn_rangeFunc_st {σ : Type} {P : Program} {n : Nat} {g : Operand} {ps : Array Tmp} {assign body : Code} {Q : Exit → Act → World → Prop} {a : Act} {w : World}
    {gf : Nat} {lb : Array Value} (hg : a.eval g = .func (.func gf) #[] lb) (eg : ∀ args w, (callFunc gf args).run P w = .ok (.enter gf args) w)
    {encs : σ → Array Value} {more : σ → Prop} {next : σ → σ} {s0 : σ} {own : σ → World → Prop} {begins : World → Prop} {begun : World → World} {stepped : σ → World → World}
    (hit : Iter P gf lb encs more next s0 own begins begun stepped) (hps : ∀ s, (encs s).size = ps.size)
    (hk0 : ∀ W, KeepsNon w.heap.size W (begun W)) (hks : ∀ s W, KeepsNon w.heap.size W (stepped s W))
    (I I' : σ → World → Prop) (hown : ∀ s W, I s W → own s W) (hown' : ∀ s W, I' s W → own s W) (hstep : ∀ s W, more s → I' s W → I (next s) (stepped s W))
    (hI : ∀ s W l o o', I s W → w.heap.size ≤ l → W.heap[l]? = some o → o.isCells = false → I s (W.putObj l o'))
    (hI' : ∀ s W l o o', I' s W → w.heap.size ≤ l → W.heap[l]? = some o → o.isCells = false → I' s (W.putObj l o'))
    (hb0 : ∀ o1 o2, begins ((w.alloc o1).alloc o2)) (h0 : ∀ o1 o2, o1.isCells = false → o2.isCells = false → I s0 (begun ((w.alloc o1).alloc o2))) (a₁ : σ → Act)
    (hassign : ∀ (l m : Nat) (s : σ) (W : World) (K : Act → World → Prop), K (a₁ s) W →
      assign.wpIn (Fence.wide.inRound l) m P (Exit.then K (fun _ _ _ => False)) { tmps := (ps.zip (encs s)).foldl (fun t (p, v) => t.setIfInBounds p v) a.tmps, defers := [] } W)
    (hbody : ∀ (l m : Nat) (s : σ) (W : World), more s → I s W → body.wpIn (Fence.wide.inRound l) m P (stPost w.heap.size I' s W) (a₁ s) W)
    (hdone : ∀ (D : Nat) (s : σ) (W : World), w.heap.size ≤ D → ¬ more s → I s W → W.heap[D]? = some (.deferred (some [])) → Q .normal { a with defers := { target := .collected D, args := #[] } :: a.defers } W) :
    (Code.rangeFunc g ps assign body).wpIn Fence.wide n P Q a w := by
  refine wpIn_rangeFunc ?_
  intro fn hfn
  rw [show Fence.wide.round = none from rfl]
  obtain ⟨rec, hrec⟩ : ∃ rec : LoopState → Option Code → Loop, rec = fun st pe => { state := st, pending := pe, fn, tmps := a.tmps, params := ps, assign, body, defers := w.heap.size } := ⟨_, rfl⟩
  obtain ⟨W1, hW1⟩ : ∃ W1, (w.alloc (.deferred (some []))).alloc (.loop (rec .ready none)) = W1 := ⟨_, rfl⟩
  have hL1 : W1.heap[w.heap.size + 1]? = some (.loop (rec .ready none)) := by
    rw [← hW1]; have := World.alloc_heap_new (w.alloc (.deferred (some []))) (.loop (rec .ready none)); rwa [World.size_alloc] at this
  have hK1 : W1.heap[w.heap.size]? = some (.deferred (some [])) := by
    rw [← hW1]; exact (Below.heap_alloc _ _ _ (by simp)).trans (World.alloc_heap_new w _)
  have hI1 : I s0 (begun W1) := by rw [← hW1]; exact h0 _ _ rfl rfl
  have hB1 : begins W1 := by rw [← hW1]; exact hb0 _ _
  refine ⟨w.heap.size + 1, [{ target := .collected w.heap.size, args := #[] }], W1, { target := .fn (.func gf) lb, args := #[.func (.yield (w.heap.size + 1)) #[] #[]] }, W1, gf,
    #[.func (.yield (w.heap.size + 1)) #[] #[]] ++ lb, W1, ?_, ?_, ?_, ?_, (fun h => by cases h), ?_⟩
  · rw [← hW1, hrec]; exact run_enterLoop_outer _ _ _ _ _
  · simp only [resolve, hg]
    simp [go_sem]
  · intro f' _; trivial
  · simp [invoke, go_sem, eg]
  · refine (hit (w.heap.size + 1) (n - 1)
      (fun s W => I s W ∧ W.heap[w.heap.size + 1]? = some (.loop (rec .ready none)) ∧ W.heap[w.heap.size]? = some (.deferred (some [])))
      (fun s W => I' s W ∧ W.heap[w.heap.size + 1]? = some (.loop (rec .ready none)) ∧ W.heap[w.heap.size]? = some (.deferred (some [])))
      (fun s W h => hown s W h.1) (fun s W h => hown' s W h.1)
      (fun s W hm h => ⟨hstep s W hm h.1, (hks s W).same _ _ (by omega) h.2.1 rfl, (hks s W).same _ _ (Nat.le_refl _) h.2.2 rfl⟩)
      ?_ W1 hB1 ⟨hI1, (hk0 W1).same _ _ (by omega) hL1 rfl, (hk0 W1).same _ _ (Nat.le_refl _) hK1 rfl⟩).mono ?_
    · rintro s W hm ⟨hi, hl, hk⟩
      have hlt : w.heap.size + 1 < W.heap.size := (Array.getElem?_eq_some_iff.1 hl).1
      have hy := run_yield (P := P) (args := encs s) hl (by rw [hrec]; simp [hps])
      rw [hrec] at hy
      refine ⟨fn, _, assign, body, hy, roundIn_of_wpIn hfn (hassign _ _ s W _ ⟨_, run_beginRound hl (by rw [hrec]), ?_⟩)⟩
      have hl2 : (W.putObj (w.heap.size + 1) (.loop { rec .ready none with state := .busy })).heap[w.heap.size + 1]? = some (.loop { rec .ready none with state := .busy }) := World.putObj_heap_same hlt
      have hk2 : (W.putObj (w.heap.size + 1) (.loop { rec .ready none with state := .busy })).heap[w.heap.size]? = some (.deferred (some [])) := (World.putObj_heap_other (by omega)).trans hk
      refine Code.wpIn_mono ?_ (hbody _ _ s _ hm (hI s W _ _ _ hi (by omega) hl rfl))
      rintro e a3 W3 hp
      cases e with
      | normal =>
        obtain ⟨hk3, hi3⟩ := hp
        have hl3 := hk3.same _ _ (by omega) hl2 rfl
        have hk3' := hk3.same _ _ (Nat.le_refl _) hk2 rfl
        have hr := run_endRound (P := P) none hl3
        rw [hrec] at hr
        refine ⟨_, _, hr, rfl, hI' s W3 _ _ _ hi3 (by omega) hl3 rfl, ?_, (World.putObj_heap_other (by omega)).trans hk3'⟩
        rw [hrec]
        exact World.putObj_heap_same (Array.getElem?_eq_some_iff.1 hl3).1
      | _ => exact hp.elim
    · rintro e W2 ⟨⟨v, rfl⟩, s, hm, hi, hl, hk⟩
      exact ⟨none, _, by have := run_endLoop (P := P) hl (by rw [hrec]; simp); rw [hrec] at this; exact this, hdone _ s _ (Nat.le_refl _) hm (hI s _ _ _ _ hi (by omega) hl rfl) ((World.putObj_heap_other (by omega)).trans hk)⟩
theorem wide_fn (f : FuncId) : Fence.wide.fn f = True := rfl
theorem wide_depth : (Fence.wide.depth.isSome = true) = False := by simp [Fence.wide]
theorem wide_fn_in (l : Nat) (f : FuncId) : (Fence.wide.inRound l).fn f = True := rfl
theorem wide_depth_in (l : Nat) : ((Fence.wide.inRound l).depth.isSome = true) = False := by simp [Fence.wide, Fence.inRound]
end Go.Proofs.Ytdjgndnllaingaa
/-
  THE STATEMENT 'for .. := range seq { .. }' WHERE THE ITERATOR WORKS BETWEEN ITS ROUNDS, AND THE BODY NEVER LEAVES EARLY: by states, and what its work leaves.
-/
namespace Go.Proofs.Ytdjgndnllaingaa
open Go Go.RowKit
/-- AN ITERATOR BY ITS STATES AND ITS WORK: bg: what it does ahead of the first round; st: what it does behind the round of a state, till the next one or the end. -/
def IterR {σ : Type} (P : Program) (gf : FuncId) (lb : Array Value) (encs : σ → Array Value) (more : σ → Prop) (next : σ → σ) (s0 : σ) (own : σ → World → Prop) (begins : World → Prop) (bg : World → World → Prop) (st : σ → World → World → Prop) : Prop :=
  ∀ (l n : Nat) (J J' E : σ → World → Prop), (∀ s W, J' s W → own s W) →
    (∀ s W W', more s → J' s W → st s W W' → more (next s) → J (next s) W') → (∀ s W W', more s → J' s W → st s W W' → ¬ more (next s) → E (next s) W') →
    (∀ s W, more s → J s W → YieldAt Fence.wide (n - 1) P l (encs s) W fun e W' => e = .returned (.bool true) ∧ J' s W') →
    ∀ W, begins W → (∀ W', bg W W' → more s0 → J s0 W') → (∀ W', bg W W' → ¬ more s0 → E s0 W') → CallsIn Fence.wide n P gf (#[.func (.yield l) #[] #[]] ++ lb) W fun e W' => (∃ v, e = .returned v) ∧ ∃ s, ¬ more s ∧ E s W'
theorem wpIn_rangeFunc_rel {σ : Type} {P : Program} {n : Nat} {g : Operand} {ps : Array Tmp} {assign body : Code} {Q : Exit → Act → World → Prop} {a : Act} {w : World}
    {gf : Nat} {lb : Array Value} (hg : a.eval g = .func (.func gf) #[] lb) (eg : ∀ args w, (callFunc gf args).run P w = .ok (.enter gf args) w)
    {encs : σ → Array Value} {more : σ → Prop} {next : σ → σ} {s0 : σ} {own : σ → World → Prop} {begins : World → Prop} {bg : World → World → Prop} {st : σ → World → World → Prop}
    (hit : IterR P gf lb encs more next s0 own begins bg st) (hps : ∀ s, (encs s).size = ps.size)
    (hk0 : ∀ W W', w.heap.size ≤ W.heap.size → bg W W' → KeepsNon w.heap.size W W') (hks : ∀ s W W', st s W W' → KeepsNon w.heap.size W W')
    (I I' E : σ → World → Prop) (hown' : ∀ s W, I' s W → own s W)
    (hstep : ∀ s W W', more s → I' s W → st s W W' → more (next s) → I (next s) W') (hstepE : ∀ s W W', more s → I' s W → st s W W' → ¬ more (next s) → E (next s) W')
    (hI : ∀ s W l o o', I s W → w.heap.size ≤ l → W.heap[l]? = some o → o.isCells = false → I s (W.putObj l o'))
    (hI' : ∀ s W l o o', I' s W → w.heap.size ≤ l → W.heap[l]? = some o → o.isCells = false → I' s (W.putObj l o'))
    (hE : ∀ s W l o o', E s W → w.heap.size ≤ l → W.heap[l]? = some o → o.isCells = false → E s (W.putObj l o'))
    (hb0 : ∀ o1 o2, begins ((w.alloc o1).alloc o2)) (h0 : ∀ o1 o2 W', o1.isCells = false → o2.isCells = false → bg ((w.alloc o1).alloc o2) W' → more s0 → I s0 W')
    (h0E : ∀ o1 o2 W', o1.isCells = false → o2.isCells = false → bg ((w.alloc o1).alloc o2) W' → ¬ more s0 → E s0 W') (a₁ : σ → Act)
    (hassign : ∀ (l m : Nat) (s : σ) (W : World) (K : Act → World → Prop), K (a₁ s) W →
      assign.wpIn (Fence.wide.inRound l) m P (Exit.then K (fun _ _ _ => False)) { tmps := (ps.zip (encs s)).foldl (fun t (p, v) => t.setIfInBounds p v) a.tmps, defers := [] } W)
    (hbody : ∀ (l m : Nat) (s : σ) (W : World), more s → I s W → body.wpIn (Fence.wide.inRound l) m P (stPost w.heap.size I' s W) (a₁ s) W)
    (hdone : ∀ (D : Nat) (s : σ) (W : World), w.heap.size ≤ D → ¬ more s → E s W → W.heap[D]? = some (.deferred (some [])) → Q .normal { a with defers := { target := .collected D, args := #[] } :: a.defers } W) :
    (Code.rangeFunc g ps assign body).wpIn Fence.wide n P Q a w := by
  refine wpIn_rangeFunc ?_
  intro fn hfn
  rw [show Fence.wide.round = none from rfl]
  obtain ⟨rec, hrec⟩ : ∃ rec : LoopState → Option Code → Loop, rec = fun st pe => { state := st, pending := pe, fn, tmps := a.tmps, params := ps, assign, body, defers := w.heap.size } := ⟨_, rfl⟩
  obtain ⟨W1, hW1⟩ : ∃ W1, (w.alloc (.deferred (some []))).alloc (.loop (rec .ready none)) = W1 := ⟨_, rfl⟩
  have hL1 : W1.heap[w.heap.size + 1]? = some (.loop (rec .ready none)) := by
    rw [← hW1]; have := World.alloc_heap_new (w.alloc (.deferred (some []))) (.loop (rec .ready none)); rwa [World.size_alloc] at this
  have hK1 : W1.heap[w.heap.size]? = some (.deferred (some [])) := by
    rw [← hW1]; exact (Below.heap_alloc _ _ _ (by simp)).trans (World.alloc_heap_new w _)
  have hz1 : w.heap.size ≤ W1.heap.size := by rw [← hW1]; simp; omega
  have hI1 : ∀ W', bg W1 W' → more s0 → I s0 W' := by rw [← hW1]; exact fun W' => h0 _ _ W' rfl rfl
  have hE1 : ∀ W', bg W1 W' → ¬ more s0 → E s0 W' := by rw [← hW1]; exact fun W' => h0E _ _ W' rfl rfl
  have hB1 : begins W1 := by rw [← hW1]; exact hb0 _ _
  refine ⟨w.heap.size + 1, [{ target := .collected w.heap.size, args := #[] }], W1, { target := .fn (.func gf) lb, args := #[.func (.yield (w.heap.size + 1)) #[] #[]] }, W1, gf,
    #[.func (.yield (w.heap.size + 1)) #[] #[]] ++ lb, W1, ?_, ?_, ?_, ?_, (fun h => by cases h), ?_⟩
  · rw [← hW1, hrec]; exact run_enterLoop_outer _ _ _ _ _
  · simp only [resolve, hg]
    simp [go_sem]
  · intro f' _; trivial
  · simp [invoke, go_sem, eg]
  · refine (hit (w.heap.size + 1) (n - 1)
      (fun s W => I s W ∧ W.heap[w.heap.size + 1]? = some (.loop (rec .ready none)) ∧ W.heap[w.heap.size]? = some (.deferred (some [])))
      (fun s W => I' s W ∧ W.heap[w.heap.size + 1]? = some (.loop (rec .ready none)) ∧ W.heap[w.heap.size]? = some (.deferred (some [])))
      (fun s W => E s W ∧ W.heap[w.heap.size + 1]? = some (.loop (rec .ready none)) ∧ W.heap[w.heap.size]? = some (.deferred (some [])))
      (fun s W h => hown' s W h.1)
      (fun s W W' hm h hs hm2 => ⟨hstep s W W' hm h.1 hs hm2, (hks s W W' hs).same _ _ (by omega) h.2.1 rfl, (hks s W W' hs).same _ _ (Nat.le_refl _) h.2.2 rfl⟩)
      (fun s W W' hm h hs hm2 => ⟨hstepE s W W' hm h.1 hs hm2, (hks s W W' hs).same _ _ (by omega) h.2.1 rfl, (hks s W W' hs).same _ _ (Nat.le_refl _) h.2.2 rfl⟩)
      ?_ W1 hB1 (fun W' hb hm => ⟨hI1 W' hb hm, (hk0 W1 W' hz1 hb).same _ _ (by omega) hL1 rfl, (hk0 W1 W' hz1 hb).same _ _ (Nat.le_refl _) hK1 rfl⟩)
      (fun W' hb hm => ⟨hE1 W' hb hm, (hk0 W1 W' hz1 hb).same _ _ (by omega) hL1 rfl, (hk0 W1 W' hz1 hb).same _ _ (Nat.le_refl _) hK1 rfl⟩)).mono ?_
    · rintro s W hm ⟨hi, hl, hk⟩
      have hlt : w.heap.size + 1 < W.heap.size := (Array.getElem?_eq_some_iff.1 hl).1
      have hy := run_yield (P := P) (args := encs s) hl (by rw [hrec]; simp [hps])
      rw [hrec] at hy
      refine ⟨fn, _, assign, body, hy, roundIn_of_wpIn hfn (hassign _ _ s W _ ⟨_, run_beginRound hl (by rw [hrec]), ?_⟩)⟩
      have hl2 : (W.putObj (w.heap.size + 1) (.loop { rec .ready none with state := .busy })).heap[w.heap.size + 1]? = some (.loop { rec .ready none with state := .busy }) := World.putObj_heap_same hlt
      have hk2 : (W.putObj (w.heap.size + 1) (.loop { rec .ready none with state := .busy })).heap[w.heap.size]? = some (.deferred (some [])) := (World.putObj_heap_other (by omega)).trans hk
      refine Code.wpIn_mono ?_ (hbody _ _ s _ hm (hI s W _ _ _ hi (by omega) hl rfl))
      rintro e a3 W3 hp
      cases e with
      | normal =>
        obtain ⟨hk3, hi3⟩ := hp
        have hl3 := hk3.same _ _ (by omega) hl2 rfl
        have hk3' := hk3.same _ _ (Nat.le_refl _) hk2 rfl
        have hr := run_endRound (P := P) none hl3
        rw [hrec] at hr
        refine ⟨_, _, hr, rfl, hI' s W3 _ _ _ hi3 (by omega) hl3 rfl, ?_, (World.putObj_heap_other (by omega)).trans hk3'⟩
        rw [hrec]
        exact World.putObj_heap_same (Array.getElem?_eq_some_iff.1 hl3).1
      | _ => exact hp.elim
    · rintro e W2 ⟨⟨v, rfl⟩, s, hm, hi, hl, hk⟩
      exact ⟨none, _, by have := run_endLoop (P := P) hl (by rw [hrec]; simp); rw [hrec] at this; exact this, hdone _ s _ (Nat.le_refl _) hm (hE s _ _ _ _ hi (by omega) hl rfl) ((World.putObj_heap_other (by omega)).trans hk)⟩
end Go.Proofs.Ytdjgndnllaingaa
/-
  match.each, match.Select: THE WALKS.
-/
namespace Go.Proofs.Ytdjgndnllaingaa.LabW
open Go.RowKit Go.Shelf LabM
attribute [local go_sem] Oper.semAt_some wide_fn wide_depth wide_fn_in wide_depth_in
/-- Labels in memory: where their slice lies, and what they are. -/
abbrev Hdr := (Option Addr × Nat × Nat) × List Lab
def encH (x : Hdr) : List Value := [.slice x.1.1 x.1.2.1 x.1.2.2]
def okH (w : World) (x : Hdr) : Prop := Comes w 2 encL okL x.1.1 x.1.2.1 x.1.2.2 x.2 ∧ x.1.2.1 ≤ 1000000
/-- The places of labels that all fit. -/
def places (ms : List Mat) (ls : List Hdr) : List Nat := (List.range ls.length).filter fun i => match ls[i]? with | some x => allB ms x.2 | none => false
theorem filter_range_at (p : Nat → Bool) (n i : Nat) (hi : i < n) (hp : p i = true) : ((List.range n).filter p)[((List.range i).filter p).length]? = some i := by
  have e : List.range n = List.range i ++ (i :: (List.range (n - (i + 1))).map (i + 1 + ·)) := by
    have h1 := @List.range_add i (n - i)
    rw [show i + (n - i) = n by omega] at h1
    rw [h1]
    congr 1
    rw [show n - i = (n - (i + 1)) + 1 by omega, List.range_succ_eq_map, List.map_cons, List.map_map]
    congr 1
    apply List.map_congr_left
    intro a _
    simp; omega
  rw [e, List.filter_append, List.getElem?_append_right (Nat.le_refl _), Nat.sub_self, List.filter_cons, if_pos hp]
  rfl
theorem H_cells {w : World} {A : Option Addr} {l : List Hdr} (h : Lies w w.heap.size 1 encH A l) {k : Nat} (hk : k < l.length) :
    ∃ b o, A = some ⟨b, o, none⟩ ∧ ∀ W, Below w.heap.size w W → W.cell? ⟨b, o + k, none⟩ = some (.slice l[k].1.1 l[k].1.2.1 l[k].1.2.2) := by
  obtain ⟨b, o, hA, _, hc⟩ := h.all hk
  exact ⟨b, o, hA, fun W hW => by have := hc W hW 0 _ rfl; simpa using this⟩
/-- What the iterator needs of memory. -/
structure EachMem (bl bm : Nat) (A1 : Option Addr) (n1 c1 : Nat) (ms : List Mat) (A : Option Addr) (n c : Nat) (ls : List Hdr) (W : World) : Prop where
  cl : W.cell? ⟨bl, 0, none⟩ = some (.slice A n c)
  cm : W.cell? ⟨bm, 0, none⟩ = some (.slice A1 n1 c1)
  hl : Comes W 1 encH (fun _ => True) A n c ls
  hs : ∀ x ∈ ls, okH W x
  hm : Comes W 3 encM okM A1 n1 c1 ms
end Go.Proofs.Ytdjgndnllaingaa.LabW
/-
  match.Select: THE WALK.
-/
namespace Go.Proofs.Ytdjgndnllaingaa.LabW
open Go.RowKit Go.Shelf LabM
attribute [local go_sem] Oper.semAt_some wide_fn wide_depth wide_fn_in wide_depth_in
def encN (i : Nat) : List Value := [.int .i64 (i : Int)]
theorem Comes.agree {α : Type} {w W : World} {size : Nat} {encA : α → List Value} {okA : α → Prop} {A : Option Addr} {n c : Nat} {l : List α} (h : Comes w size encA okA A n c l) (hb : Below w.heap.size w W) : Comes W size encA okA A n c l := h.later hb
theorem elemI : Elem Try.prog 3 (.int .i64 0) 1 8 := by unfold Elem; kernel_rfl
theorem places_le (ms : List Mat) (ls : List Hdr) : (places ms ls).length ≤ ls.length := by
  have := List.length_filter_le (fun i => match ls[i]? with | some x => allB ms x.2 | none => false) (List.range ls.length)
  rw [List.length_range] at this
  exact this
end Go.Proofs.Ytdjgndnllaingaa.LabW
