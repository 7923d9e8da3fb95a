/-
  THE STATEMENT 'for .. := range seq { .. }' WHERE THE ITERATOR KEEPS STATE OF ITS OWN IN CELLS, AND THE BODY NEVER LEAVES EARLY: by states s: what holds ahead of the round of s, what holds behind it, what the iterator then writes.
-/
import Derived.Test.YtboomamnenonoaaDoorRound
namespace Go.Proofs.YtboomamnenonoaaDoor
open Go Go.RowKit
/-- Whatever is no cells, at or beyond B, lies as it lay. -/
structure KeepsNon (B : Nat) (W W' : World) : Prop where
  size : W.heap.size ≤ W'.heap.size
  same : ∀ (k : Nat) (o : Obj), B ≤ k → W.heap[k]? = some o → o.isCells = false → W'.heap[k]? = some o
theorem KeepsNon.refl (B : Nat) (W : World) : KeepsNon B W W := ⟨Nat.le_refl _, fun _ _ _ h _ => h⟩
theorem KeepsNon.trans {X : Nat} {A B C : World} (h : KeepsNon X A B) (k : KeepsNon X B C) : KeepsNon X A C :=
  ⟨Nat.le_trans h.size k.size, fun i o hi ho hc => k.same i o hi (h.same i o hi ho hc) hc⟩
theorem KeepsNon.of_others {B : Nat} {W W' : World} (h : KeepsOthers W W') : KeepsNon B W W' := ⟨h.size, fun k o _ hk ho => h.same k o hk ho⟩
theorem KeepsNon.setCell (B : Nat) (W : World) (a : Addr) (v : Value) : KeepsNon B W (W.setCell a v) := .of_others (KeepsOthers.setCell W a v)
theorem KeepsNon.alloc (B : Nat) (W : World) (o : Obj) : KeepsNon B W (W.alloc o) := .of_others (KeepsOthers.alloc W o)
theorem KeepsNon.drew (B : Nat) (W : World) : KeepsNon B W W.drew := .of_others (KeepsOthers.drew W)
theorem KeepsNon.drewN (B : Nat) (W : World) (n : Nat) : KeepsNon B W (W.drewN n) := ⟨Nat.le_refl _, fun _ _ _ h _ => h⟩
theorem KeepsNon.below {B : Nat} {W W' : World} (h : Below W.heap.size W W') : KeepsNon B W W' :=
  ⟨h.size, fun k _ _ hk _ => (h.block k (Array.getElem?_eq_some_iff.1 hk).1).trans hk⟩

/-- AN ITERATOR BY ITS STATES. own: what it needs of its own cells ahead of a round and behind it; begun: what it does ahead of the first round; stepped: what it does behind a round. -/
def Iter {σ : Type} (P : Program) (gf : FuncId) (lb : Array Value) (encs : σ → Array Value) (more : σ → Prop) (next : σ → σ) (s0 : σ) (own : σ → World → Prop) (begins : World → Prop) (begun : World → World) (stepped : σ → World → World) : Prop :=
  ∀ (l n : Nat) (J J' : σ → World → Prop), (∀ s W, J s W → own s W) → (∀ s W, J' s W → own s W) → (∀ s W, more s → J' s W → J (next s) (stepped s W)) →
    (∀ s W, more s → J s W → YieldAt Fence.wide (n - 1) P l (encs s) W fun e W' => e = .returned (.bool true) ∧ J' s W') →
    ∀ W, begins W → J s0 (begun W) → CallsIn Fence.wide n P gf (#[.func (.yield l) #[] #[]] ++ lb) W fun e W' => (∃ v, e = .returned v) ∧ ∃ s, ¬ more s ∧ J s W'

/-- How the body is left. -/
def stPost {σ : Type} (B : Nat) (I' : σ → World → Prop) (s : σ) (W : World) : Exit → Act → World → Prop
  | .normal, _, W' => KeepsNon B W W' ∧ I' s W'
  | _, _, _ => False
theorem stPost_noOut {σ : Type} {B : Nat} {I' : σ → World → Prop} {s : σ} {W : World} : ¬ LetsOut (stPost B I' s W) := fun ⟨_, _, h⟩ => h

theorem wpIn_rangeFunc_st {σ : Type} {P : Program} {n : Nat} {g : Operand} {ps : Array Tmp} {assign body : Code} {Q : Exit → Act → World → Prop} {a : Act} {w : World}
    {gf : Nat} {lb : Array Value} (hg : a.eval g = .func (.func gf) #[] lb) (eg : ∀ args w, (callFunc gf args).run P w = .ok (.enter gf args) w)
    {encs : σ → Array Value} {more : σ → Prop} {next : σ → σ} {s0 : σ} {own : σ → World → Prop} {begins : World → Prop} {begun : World → World} {stepped : σ → World → World}
    (hit : Iter P gf lb encs more next s0 own begins begun stepped) (hps : ∀ s, (encs s).size = ps.size)
    (hk0 : ∀ W, KeepsNon w.heap.size W (begun W)) (hks : ∀ s W, KeepsNon w.heap.size W (stepped s W))
    (I I' : σ → World → Prop) (hown : ∀ s W, I s W → own s W) (hown' : ∀ s W, I' s W → own s W) (hstep : ∀ s W, more s → I' s W → I (next s) (stepped s W))
    (hI : ∀ s W l o o', I s W → w.heap.size ≤ l → W.heap[l]? = some o → o.isCells = false → I s (W.putObj l o'))
    (hI' : ∀ s W l o o', I' s W → w.heap.size ≤ l → W.heap[l]? = some o → o.isCells = false → I' s (W.putObj l o'))
    (hb0 : ∀ o1 o2, begins ((w.alloc o1).alloc o2)) (h0 : ∀ o1 o2, o1.isCells = false → o2.isCells = false → I s0 (begun ((w.alloc o1).alloc o2))) (a₁ : σ → Act)
    (hassign : ∀ (l m : Nat) (s : σ) (W : World) (K : Act → World → Prop), K (a₁ s) W →
      assign.wpIn (Fence.wide.inRound l) m P (Exit.then K (fun _ _ _ => False)) { tmps := (ps.zip (encs s)).foldl (fun t (p, v) => t.setIfInBounds p v) a.tmps, defers := [] } W)
    (hbody : ∀ (l m : Nat) (s : σ) (W : World), more s → I s W → body.wpIn (Fence.wide.inRound l) m P (stPost w.heap.size I' s W) (a₁ s) W)
    (hdone : ∀ (D : Nat) (s : σ) (W : World), w.heap.size ≤ D → ¬ more s → I s W → W.heap[D]? = some (.deferred (some [])) → Q .normal { a with defers := { target := .collected D, args := #[] } :: a.defers } W) :
    (Code.rangeFunc g ps assign body).wpIn Fence.wide n P Q a w := by
  refine wpIn_rangeFunc ?_
  intro fn hfn
  rw [show Fence.wide.round = none from rfl]
  obtain ⟨rec, hrec⟩ : ∃ rec : LoopState → Option Code → Loop, rec = fun st pe => { state := st, pending := pe, fn, tmps := a.tmps, params := ps, assign, body, defers := w.heap.size } := ⟨_, rfl⟩
  obtain ⟨W1, hW1⟩ : ∃ W1, (w.alloc (.deferred (some []))).alloc (.loop (rec .ready none)) = W1 := ⟨_, rfl⟩
  have hL1 : W1.heap[w.heap.size + 1]? = some (.loop (rec .ready none)) := by
    rw [← hW1]; have := World.alloc_heap_new (w.alloc (.deferred (some []))) (.loop (rec .ready none)); rwa [World.size_alloc] at this
  have hK1 : W1.heap[w.heap.size]? = some (.deferred (some [])) := by
    rw [← hW1]; exact (Below.heap_alloc _ _ _ (by simp)).trans (World.alloc_heap_new w _)
  have hI1 : I s0 (begun W1) := by rw [← hW1]; exact h0 _ _ rfl rfl
  have hB1 : begins W1 := by rw [← hW1]; exact hb0 _ _
  refine ⟨w.heap.size + 1, [{ target := .collected w.heap.size, args := #[] }], W1, { target := .fn (.func gf) lb, args := #[.func (.yield (w.heap.size + 1)) #[] #[]] }, W1, gf,
    #[.func (.yield (w.heap.size + 1)) #[] #[]] ++ lb, W1, ?_, ?_, ?_, ?_, (fun h => by cases h), ?_⟩
  · rw [← hW1, hrec]; exact run_enterLoop_outer _ _ _ _ _
  · simp only [resolve, hg]
    simp [go_sem]
  · intro f' _; trivial
  · simp [invoke, go_sem, eg]
  · refine (hit (w.heap.size + 1) (n - 1)
      (fun s W => I s W ∧ W.heap[w.heap.size + 1]? = some (.loop (rec .ready none)) ∧ W.heap[w.heap.size]? = some (.deferred (some [])))
      (fun s W => I' s W ∧ W.heap[w.heap.size + 1]? = some (.loop (rec .ready none)) ∧ W.heap[w.heap.size]? = some (.deferred (some [])))
      (fun s W h => hown s W h.1) (fun s W h => hown' s W h.1)
      (fun s W hm h => ⟨hstep s W hm h.1, (hks s W).same _ _ (by omega) h.2.1 rfl, (hks s W).same _ _ (Nat.le_refl _) h.2.2 rfl⟩)
      ?_ W1 hB1 ⟨hI1, (hk0 W1).same _ _ (by omega) hL1 rfl, (hk0 W1).same _ _ (Nat.le_refl _) hK1 rfl⟩).mono ?_
    · rintro s W hm ⟨hi, hl, hk⟩
      have hlt : w.heap.size + 1 < W.heap.size := (Array.getElem?_eq_some_iff.1 hl).1
      have hy := run_yield (P := P) (args := encs s) hl (by rw [hrec]; simp [hps])
      rw [hrec] at hy
      refine ⟨fn, _, assign, body, hy, roundIn_of_wpIn hfn (hassign _ _ s W _ ⟨_, run_beginRound hl (by rw [hrec]), ?_⟩)⟩
      have hl2 : (W.putObj (w.heap.size + 1) (.loop { rec .ready none with state := .busy })).heap[w.heap.size + 1]? = some (.loop { rec .ready none with state := .busy }) := World.putObj_heap_same hlt
      have hk2 : (W.putObj (w.heap.size + 1) (.loop { rec .ready none with state := .busy })).heap[w.heap.size]? = some (.deferred (some [])) := (World.putObj_heap_other (by omega)).trans hk
      refine Code.wpIn_mono ?_ (hbody _ _ s _ hm (hI s W _ _ _ hi (by omega) hl rfl))
      rintro e a3 W3 hp
      cases e with
      | normal =>
        obtain ⟨hk3, hi3⟩ := hp
        have hl3 := hk3.same _ _ (by omega) hl2 rfl
        have hk3' := hk3.same _ _ (Nat.le_refl _) hk2 rfl
        have hr := run_endRound (P := P) none hl3
        rw [hrec] at hr
        refine ⟨_, _, hr, rfl, hI' s W3 _ _ _ hi3 (by omega) hl3 rfl, ?_, (World.putObj_heap_other (by omega)).trans hk3'⟩
        rw [hrec]
        exact World.putObj_heap_same (Array.getElem?_eq_some_iff.1 hl3).1
      | _ => exact hp.elim
    · rintro e W2 ⟨⟨v, rfl⟩, s, hm, hi, hl, hk⟩
      exact ⟨none, _, by have := run_endLoop (P := P) hl (by rw [hrec]; simp); rw [hrec] at this; exact this, hdone _ s _ (Nat.le_refl _) hm (hI s _ _ _ _ hi (by omega) hl rfl) ((World.putObj_heap_other (by omega)).trans hk)⟩
theorem wide_fn (f : FuncId) : Fence.wide.fn f = True := rfl
theorem wide_depth : (Fence.wide.depth.isSome = true) = False := by simp [Fence.wide]
theorem wide_fn_in (l : Nat) (f : FuncId) : (Fence.wide.inRound l).fn f = True := rfl
theorem wide_depth_in (l : Nat) : ((Fence.wide.inRound l).depth.isSome = true) = False := by simp [Fence.wide, Fence.inRound]
end Go.Proofs.YtboomamnenonoaaDoor
