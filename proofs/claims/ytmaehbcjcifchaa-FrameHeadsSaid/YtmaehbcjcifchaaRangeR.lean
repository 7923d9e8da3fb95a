/-
  THE STATEMENT 'for .. := range seq { .. }' WHERE THE ITERATOR WORKS BETWEEN ITS ROUNDS, AND THE BODY NEVER LEAVES EARLY: by states, and what its work leaves.
-/
import Derived.Test.YtmaehbcjcifchaaRange
namespace Go.Proofs.Ytmaehbcjcifchaa
open Go Go.RowKit
/-- AN ITERATOR BY ITS STATES AND ITS WORK: bg: what it does ahead of the first round; st: what it does behind the round of a state, till the next one or the end. -/
def IterR {σ : Type} (P : Program) (gf : FuncId) (lb : Array Value) (encs : σ → Array Value) (more : σ → Prop) (next : σ → σ) (s0 : σ) (own : σ → World → Prop) (begins : World → Prop) (bg : World → World → Prop) (st : σ → World → World → Prop) : Prop :=
  ∀ (l n : Nat) (J J' E : σ → World → Prop), (∀ s W, J' s W → own s W) →
    (∀ s W W', more s → J' s W → st s W W' → more (next s) → J (next s) W') → (∀ s W W', more s → J' s W → st s W W' → ¬ more (next s) → E (next s) W') →
    (∀ s W, more s → J s W → YieldAt Fence.wide (n - 1) P l (encs s) W fun e W' => e = .returned (.bool true) ∧ J' s W') →
    ∀ W, begins W → (∀ W', bg W W' → more s0 → J s0 W') → (∀ W', bg W W' → ¬ more s0 → E s0 W') → CallsIn Fence.wide n P gf (#[.func (.yield l) #[] #[]] ++ lb) W fun e W' => (∃ v, e = .returned v) ∧ ∃ s, ¬ more s ∧ E s W'
theorem wpIn_rangeFunc_rel {σ : Type} {P : Program} {n : Nat} {g : Operand} {ps : Array Tmp} {assign body : Code} {Q : Exit → Act → World → Prop} {a : Act} {w : World}
    {gf : Nat} {lb : Array Value} (hg : a.eval g = .func (.func gf) #[] lb) (eg : ∀ args w, (callFunc gf args).run P w = .ok (.enter gf args) w)
    {encs : σ → Array Value} {more : σ → Prop} {next : σ → σ} {s0 : σ} {own : σ → World → Prop} {begins : World → Prop} {bg : World → World → Prop} {st : σ → World → World → Prop}
    (hit : IterR P gf lb encs more next s0 own begins bg st) (hps : ∀ s, (encs s).size = ps.size)
    (hk0 : ∀ W W', w.heap.size ≤ W.heap.size → bg W W' → KeepsNon w.heap.size W W') (hks : ∀ s W W', st s W W' → KeepsNon w.heap.size W W')
    (I I' E : σ → World → Prop) (hown' : ∀ s W, I' s W → own s W)
    (hstep : ∀ s W W', more s → I' s W → st s W W' → more (next s) → I (next s) W') (hstepE : ∀ s W W', more s → I' s W → st s W W' → ¬ more (next s) → E (next s) W')
    (hI : ∀ s W l o o', I s W → w.heap.size ≤ l → W.heap[l]? = some o → o.isCells = false → I s (W.putObj l o'))
    (hI' : ∀ s W l o o', I' s W → w.heap.size ≤ l → W.heap[l]? = some o → o.isCells = false → I' s (W.putObj l o'))
    (hE : ∀ s W l o o', E s W → w.heap.size ≤ l → W.heap[l]? = some o → o.isCells = false → E s (W.putObj l o'))
    (hb0 : ∀ o1 o2, begins ((w.alloc o1).alloc o2)) (h0 : ∀ o1 o2 W', o1.isCells = false → o2.isCells = false → bg ((w.alloc o1).alloc o2) W' → more s0 → I s0 W')
    (h0E : ∀ o1 o2 W', o1.isCells = false → o2.isCells = false → bg ((w.alloc o1).alloc o2) W' → ¬ more s0 → E s0 W') (a₁ : σ → Act)
    (hassign : ∀ (l m : Nat) (s : σ) (W : World) (K : Act → World → Prop), K (a₁ s) W →
      assign.wpIn (Fence.wide.inRound l) m P (Exit.then K (fun _ _ _ => False)) { tmps := (ps.zip (encs s)).foldl (fun t (p, v) => t.setIfInBounds p v) a.tmps, defers := [] } W)
    (hbody : ∀ (l m : Nat) (s : σ) (W : World), more s → I s W → body.wpIn (Fence.wide.inRound l) m P (stPost w.heap.size I' s W) (a₁ s) W)
    (hdone : ∀ (D : Nat) (s : σ) (W : World), w.heap.size ≤ D → ¬ more s → E s W → W.heap[D]? = some (.deferred (some [])) → Q .normal { a with defers := { target := .collected D, args := #[] } :: a.defers } W) :
    (Code.rangeFunc g ps assign body).wpIn Fence.wide n P Q a w := by
  refine wpIn_rangeFunc ?_
  intro fn hfn
  rw [show Fence.wide.round = none from rfl]
  obtain ⟨rec, hrec⟩ : ∃ rec : LoopState → Option Code → Loop, rec = fun st pe => { state := st, pending := pe, fn, tmps := a.tmps, params := ps, assign, body, defers := w.heap.size } := ⟨_, rfl⟩
  obtain ⟨W1, hW1⟩ : ∃ W1, (w.alloc (.deferred (some []))).alloc (.loop (rec .ready none)) = W1 := ⟨_, rfl⟩
  have hL1 : W1.heap[w.heap.size + 1]? = some (.loop (rec .ready none)) := by
    rw [← hW1]; have := World.alloc_heap_new (w.alloc (.deferred (some []))) (.loop (rec .ready none)); rwa [World.size_alloc] at this
  have hK1 : W1.heap[w.heap.size]? = some (.deferred (some [])) := by
    rw [← hW1]; exact (Below.heap_alloc _ _ _ (by simp)).trans (World.alloc_heap_new w _)
  have hz1 : w.heap.size ≤ W1.heap.size := by rw [← hW1]; simp; omega
  have hI1 : ∀ W', bg W1 W' → more s0 → I s0 W' := by rw [← hW1]; exact fun W' => h0 _ _ W' rfl rfl
  have hE1 : ∀ W', bg W1 W' → ¬ more s0 → E s0 W' := by rw [← hW1]; exact fun W' => h0E _ _ W' rfl rfl
  have hB1 : begins W1 := by rw [← hW1]; exact hb0 _ _
  refine ⟨w.heap.size + 1, [{ target := .collected w.heap.size, args := #[] }], W1, { target := .fn (.func gf) lb, args := #[.func (.yield (w.heap.size + 1)) #[] #[]] }, W1, gf,
    #[.func (.yield (w.heap.size + 1)) #[] #[]] ++ lb, W1, ?_, ?_, ?_, ?_, (fun h => by cases h), ?_⟩
  · rw [← hW1, hrec]; exact run_enterLoop_outer _ _ _ _ _
  · simp only [resolve, hg]
    simp [go_sem]
  · intro f' _; trivial
  · simp [invoke, go_sem, eg]
  · refine (hit (w.heap.size + 1) (n - 1)
      (fun s W => I s W ∧ W.heap[w.heap.size + 1]? = some (.loop (rec .ready none)) ∧ W.heap[w.heap.size]? = some (.deferred (some [])))
      (fun s W => I' s W ∧ W.heap[w.heap.size + 1]? = some (.loop (rec .ready none)) ∧ W.heap[w.heap.size]? = some (.deferred (some [])))
      (fun s W => E s W ∧ W.heap[w.heap.size + 1]? = some (.loop (rec .ready none)) ∧ W.heap[w.heap.size]? = some (.deferred (some [])))
      (fun s W h => hown' s W h.1)
      (fun s W W' hm h hs hm2 => ⟨hstep s W W' hm h.1 hs hm2, (hks s W W' hs).same _ _ (by omega) h.2.1 rfl, (hks s W W' hs).same _ _ (Nat.le_refl _) h.2.2 rfl⟩)
      (fun s W W' hm h hs hm2 => ⟨hstepE s W W' hm h.1 hs hm2, (hks s W W' hs).same _ _ (by omega) h.2.1 rfl, (hks s W W' hs).same _ _ (Nat.le_refl _) h.2.2 rfl⟩)
      ?_ W1 hB1 (fun W' hb hm => ⟨hI1 W' hb hm, (hk0 W1 W' hz1 hb).same _ _ (by omega) hL1 rfl, (hk0 W1 W' hz1 hb).same _ _ (Nat.le_refl _) hK1 rfl⟩)
      (fun W' hb hm => ⟨hE1 W' hb hm, (hk0 W1 W' hz1 hb).same _ _ (by omega) hL1 rfl, (hk0 W1 W' hz1 hb).same _ _ (Nat.le_refl _) hK1 rfl⟩)).mono ?_
    · rintro s W hm ⟨hi, hl, hk⟩
      have hlt : w.heap.size + 1 < W.heap.size := (Array.getElem?_eq_some_iff.1 hl).1
      have hy := run_yield (P := P) (args := encs s) hl (by rw [hrec]; simp [hps])
      rw [hrec] at hy
      refine ⟨fn, _, assign, body, hy, roundIn_of_wpIn hfn (hassign _ _ s W _ ⟨_, run_beginRound hl (by rw [hrec]), ?_⟩)⟩
      have hl2 : (W.putObj (w.heap.size + 1) (.loop { rec .ready none with state := .busy })).heap[w.heap.size + 1]? = some (.loop { rec .ready none with state := .busy }) := World.putObj_heap_same hlt
      have hk2 : (W.putObj (w.heap.size + 1) (.loop { rec .ready none with state := .busy })).heap[w.heap.size]? = some (.deferred (some [])) := (World.putObj_heap_other (by omega)).trans hk
      refine Code.wpIn_mono ?_ (hbody _ _ s _ hm (hI s W _ _ _ hi (by omega) hl rfl))
      rintro e a3 W3 hp
      cases e with
      | normal =>
        obtain ⟨hk3, hi3⟩ := hp
        have hl3 := hk3.same _ _ (by omega) hl2 rfl
        have hk3' := hk3.same _ _ (Nat.le_refl _) hk2 rfl
        have hr := run_endRound (P := P) none hl3
        rw [hrec] at hr
        refine ⟨_, _, hr, rfl, hI' s W3 _ _ _ hi3 (by omega) hl3 rfl, ?_, (World.putObj_heap_other (by omega)).trans hk3'⟩
        rw [hrec]
        exact World.putObj_heap_same (Array.getElem?_eq_some_iff.1 hl3).1
      | _ => exact hp.elim
    · rintro e W2 ⟨⟨v, rfl⟩, s, hm, hi, hl, hk⟩
      exact ⟨none, _, by have := run_endLoop (P := P) hl (by rw [hrec]; simp); rw [hrec] at this; exact this, hdone _ s _ (Nat.le_refl _) hm (hE s _ _ _ _ hi (by omega) hl rfl) ((World.putObj_heap_other (by omega)).trans hk)⟩
end Go.Proofs.Ytmaehbcjcifchaa
