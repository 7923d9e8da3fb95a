/-
  frame.Split: THE WALK.
-/
import Derived.Test.YtmaehbcjcifchaaFrEach
import Derived.Test.YtmaehbcjcifchaaMem
import Derived.RangeFuncBox
import Derived.Shelf.Abstract
namespace Go.Proofs.Ytmaehbcjcifchaa.FrW
set_option linter.unusedVariables false
open Go.RowKit Go.Shelf CrcM CrcW FrM
attribute [local go_sem] Oper.semAt_some wide_fn wide_depth wide_fn_in wide_depth_in
/-- All frames: what is in them, what is left, its shape. -/
def splitF : Nat → List UInt8 → Int → List (List UInt8) × List UInt8 × Nat
  | 0, s, _ => ([], s, 0)
  | f + 1, s, most => if s = [] then ([], s, 0) else if (getF s most).2.2 = 0 then ((getF s most).1 :: (splitF f (getF s most).2.1 most).1, (splitF f (getF s most).2.1 most).2) else ([], s, (getF s most).2.2)
def encT (x : List UInt8) : List Value := [.string (bs x)]
theorem own_ge {W : World} {base n size : Nat} {e : TypeId} {v : Value} {xs : List Value} (h : W.ownsRow base e size v n xs) : ∀ k, v.ownBlock = some k → base ≤ k ∧ k < W.heap.size ∧ ∃ o, W.heap[k]? = some o ∧ o.isCells = true := by
  rcases h.2 with ⟨rfl, _⟩ | ⟨g, cap, cur, rfl, hb, hgb, _⟩
  · intro k hk; simp [Value.ownBlock] at hk
  · intro k hk
    obtain rfl : g = k := by simpa [Value.ownBlock] using hk
    exact ⟨hb, (Array.getElem?_eq_some_iff.1 hgb).1, _, hgb, rfl⟩
theorem own_set {W : World} {base n size b : Nat} {e : TypeId} {v : Value} {xs : List Value} (u : Value) (h : W.ownsRow base e size v n xs) (hb : b < base) : (W.setCell ⟨b, 0, none⟩ u).ownsRow base e size v n xs :=
  h.kept (grownBy_setCell' W b u) (.inr (fun e' => by have := (own_ge h b e').1; omega))
/-- The blocks of Split. -/
structure SpM (w : World) (h : Nat) (l : List UInt8) (most : Int) (W : World) (sv : Value) (acc : List (List UInt8)) (used : Int) (s : List UInt8) (sh : Int) : Prop where
  r0 : W.heap[h]? = some (.cells #[.string (bs l)] 9 (0, 0))
  r1 : W.heap[h + 1]? = some (.cells #[sv] 33 (0, 0))
  r2 : W.heap[h + 1 + 1]? = some (.cells #[.int .i64 used] 3 (0, 0))
  r3 : W.heap[h + 1 + 1 + 1]? = some (.cells #[.int .i64 sh] 28 (0, 0))
  q1 : W.heap[h + 1 + 1 + 1 + 1]? = some (.cells #[.string (bs s)] 9 (0, 0))
  q2 : W.heap[h + 1 + 1 + 1 + 1 + 1]? = some (.cells #[.int .i64 most] 3 (0, 0))
  q3 : W.heap[h + 1 + 1 + 1 + 1 + 1 + 1]? = some (.cells #[.pointer (some ⟨h + 1 + 1 + 1, 0, none⟩)] 53 (0, 0))
  len : s.length ≤ 2199023255552
  own : W.ownsRow (h + 7) 9 1 sv acc.length (acc.flatMap encT)
  old : ∀ k, k < h → W.heap[k]? = w.heap[k]?
  size : h + 7 ≤ W.heap.size
  os : W.os = w.os
  tape : W.tape = w.tape
  output : W.output = w.output
section
variable {w W W' : World} {h : Nat} {l s : List UInt8} {most used sh : Int} {sv : Value} {acc : List (List UInt8)}
theorem SpM.ev (m : SpM w h l most W sv acc used s sh) : EvOwn (h + 1 + 1 + 1 + 1) (h + 1 + 1 + 1 + 1 + 1) (h + 1 + 1 + 1 + 1 + 1 + 1) (h + 1 + 1 + 1) most s W := ⟨m.q1, m.q2, m.q3, ⟨sh, m.r3⟩, m.len⟩
theorem SpM.move (m : SpM w h l most W sv acc used s sh) (hk : ∀ k, k < h + 7 → W'.heap[k]? = W.heap[k]?) (ho : W'.ownsRow (h + 7) 9 1 sv acc.length (acc.flatMap encT)) (hz : h + 7 ≤ W'.heap.size) (e1 : W'.os = W.os) (e2 : W'.tape = W.tape) (e3 : W'.output = W.output) : SpM w h l most W' sv acc used s sh :=
  ⟨(hk _ (by omega)).trans m.r0, (hk _ (by omega)).trans m.r1, (hk _ (by omega)).trans m.r2, (hk _ (by omega)).trans m.r3, (hk _ (by omega)).trans m.q1, (hk _ (by omega)).trans m.q2, (hk _ (by omega)).trans m.q3, m.len, ho, fun k h2 => (hk k (by omega)).trans (m.old k h2), hz, e1.trans m.os, e2.trans m.tape, e3.trans m.output⟩
theorem SpM.below (m : SpM w h l most W sv acc used s sh) (hb : Below W.heap.size W W') : SpM w h l most W' sv acc used s sh :=
  m.move (fun k hk => hb.block k (by have := m.size; omega)) (own_later m.own hb) (Nat.le_trans m.size hb.size) hb.os hb.tape hb.output
theorem SpM.putObj (m : SpM w h l most W sv acc used s sh) {k : Nat} {o o' : Obj} (hk : h + 7 ≤ k) (ho : W.heap[k]? = some o) (hc : o.isCells = false) : SpM w h l most (W.putObj k o') sv acc used s sh :=
  m.move (fun j hj => World.putObj_heap_other (by omega)) (ownsRow_putObj m.own o' ho hc) (by have := m.size; simp [World.putObj]; omega) rfl rfl rfl
theorem SpM.setS (m : SpM w h l most W sv acc used s sh) (r : List UInt8) (hr : r.length ≤ 2199023255552) : SpM w h l most (W.setCell ⟨h + 1 + 1 + 1 + 1, 0, none⟩ (.string (bs r))) sv acc used r sh := by
  have ho : ∀ k, k ≠ h + 1 + 1 + 1 + 1 → (W.setCell ⟨h + 1 + 1 + 1 + 1, 0, none⟩ (.string (bs r))).heap[k]? = W.heap[k]? := fun k hk => heap_setCell_other _ _ _ _ hk
  exact ⟨(ho _ (by omega)).trans m.r0, (ho _ (by omega)).trans m.r1, (ho _ (by omega)).trans m.r2, (ho _ (by omega)).trans m.r3, heap_setCell_same _ _ 0 _ _ _ m.q1, (ho _ (by omega)).trans m.q2, (ho _ (by omega)).trans m.q3, hr, own_set _ m.own (by omega), fun k h2 => (ho k (by omega)).trans (m.old k h2), by simp; exact m.size, m.os, m.tape, m.output⟩
theorem SpM.setSh (m : SpM w h l most W sv acc used s sh) (x : Int) : SpM w h l most (W.setCell ⟨h + 1 + 1 + 1, 0, none⟩ (.int .i64 x)) sv acc used s x := by
  have ho : ∀ k, k ≠ h + 1 + 1 + 1 → (W.setCell ⟨h + 1 + 1 + 1, 0, none⟩ (.int .i64 x)).heap[k]? = W.heap[k]? := fun k hk => heap_setCell_other _ _ _ _ hk
  exact ⟨(ho _ (by omega)).trans m.r0, (ho _ (by omega)).trans m.r1, (ho _ (by omega)).trans m.r2, heap_setCell_same _ _ 0 _ _ _ m.r3, (ho _ (by omega)).trans m.q1, (ho _ (by omega)).trans m.q2, (ho _ (by omega)).trans m.q3, m.len, own_set _ m.own (by omega), fun k h2 => (ho k (by omega)).trans (m.old k h2), by simp; exact m.size, m.os, m.tape, m.output⟩
theorem SpM.setU (m : SpM w h l most W sv acc used s sh) (x : Int) : SpM w h l most (W.setCell ⟨h + 1 + 1, 0, none⟩ (.int .i64 x)) sv acc x s sh := by
  have ho : ∀ k, k ≠ h + 1 + 1 → (W.setCell ⟨h + 1 + 1, 0, none⟩ (.int .i64 x)).heap[k]? = W.heap[k]? := fun k hk => heap_setCell_other _ _ _ _ hk
  exact ⟨(ho _ (by omega)).trans m.r0, (ho _ (by omega)).trans m.r1, heap_setCell_same _ _ 0 _ _ _ m.r2, (ho _ (by omega)).trans m.r3, (ho _ (by omega)).trans m.q1, (ho _ (by omega)).trans m.q2, (ho _ (by omega)).trans m.q3, m.len, own_set _ m.own (by omega), fun k h2 => (ho k (by omega)).trans (m.old k h2), by simp; exact m.size, m.os, m.tape, m.output⟩
/-- Behind the append, ahead of the store. -/
theorem SpM.grown (m : SpM w h l most W sv acc used s sh) {tmp : Obj} {w1 : World} (hg : (W.alloc tmp).grownBy w1 sv.ownBlock) : (∀ k, k < h + 7 → w1.heap[k]? = W.heap[k]?) ∧ h + 7 ≤ w1.heap.size ∧ w1.os = W.os ∧ w1.tape = W.tape ∧ w1.output = W.output ∧ KeepsNon (h + 7) W w1 := by
  have hz := m.size
  have hz1 := hg.size
  rw [World.size_alloc] at hz1
  have hblk : ∀ k, k < W.heap.size → some k ≠ sv.ownBlock → w1.heap[k]? = W.heap[k]? := fun k hk hne => (hg.block k (by rw [World.size_alloc]; omega) hne).trans (Below.heap_alloc W tmp k hk)
  refine ⟨fun k hk => hblk k (by omega) (fun e => by have := (own_ge m.own k e.symm).1; omega), by omega, hg.os, hg.tape, hg.output, ⟨by omega, fun k o hk ho hc => ?_⟩⟩
  have hlt := (Array.getElem?_eq_some_iff.1 ho).1
  refine (hblk k hlt (fun e => ?_)).trans ho
  obtain ⟨-, -, o2, ho2, hc2⟩ := own_ge m.own k e.symm
  rw [ho] at ho2; cases ho2; rw [hc] at hc2; cases hc2
theorem SpM.setL (m : SpM w h l most W sv acc used s sh) {tmp : Obj} {w1 : World} {v' : Value} {x : List UInt8} (hg : (W.alloc tmp).grownBy w1 sv.ownBlock) (hown : w1.ownsRow (h + 7) 9 1 v' (acc.length + 1) (acc.flatMap encT ++ [.string (bs x)])) : SpM w h l most (w1.setCell ⟨h + 1, 0, none⟩ v') v' (acc ++ [x]) used s sh := by
  obtain ⟨hk, hz, e1, e2, e3, -⟩ := m.grown hg
  have ho : ∀ k, k ≠ h + 1 → k < h + 7 → (w1.setCell ⟨h + 1, 0, none⟩ v').heap[k]? = W.heap[k]? := fun k hk1 hk2 => (heap_setCell_other _ _ _ _ hk1).trans (hk k hk2)
  refine ⟨(ho _ (by omega) (by omega)).trans m.r0, heap_setCell_same _ _ 0 _ _ _ ((hk _ (by omega)).trans m.r1), (ho _ (by omega) (by omega)).trans m.r2, (ho _ (by omega) (by omega)).trans m.r3, (ho _ (by omega) (by omega)).trans m.q1, (ho _ (by omega) (by omega)).trans m.q2, (ho _ (by omega) (by omega)).trans m.q3, m.len, ?_, fun k h2 => (ho k (by omega) (by omega)).trans (m.old k h2), by simp; exact hz, e1.trans m.os, e2.trans m.tape, e3.trans m.output⟩
  rw [List.length_append, List.flatMap_append]
  exact own_set v' hown (by omega)
end
/-- How far the frames are told. -/
def SR (l : List UInt8) (most : Int) (acc : List (List UInt8)) (s : List UInt8) : Prop := acc.length + s.length ≤ l.length ∧ ∃ f, s.length < f ∧ splitF (l.length + 1) l most = (acc ++ (splitF f s most).1, (splitF f s most).2)
theorem SR.start (l : List UInt8) (most : Int) : SR l most [] l := ⟨by simp, l.length + 1, by omega, by simp⟩
theorem splitF_succ (f : Nat) (s : List UInt8) (most : Int) : splitF (f + 1) s most = if s = [] then ([], s, 0) else if (getF s most).2.2 = 0 then ((getF s most).1 :: (splitF f (getF s most).2.1 most).1, (splitF f (getF s most).2.1 most).2) else ([], s, (getF s most).2.2) := rfl
theorem SR.step {l : List UInt8} {most : Int} {acc : List (List UInt8)} {s : List UInt8} (h : SR l most acc s) (hm : evMore most s) : SR l most (acc ++ [(getF s most).1]) (evNext most s) := by
  obtain ⟨h1, f, h2, h3⟩ := h
  have hn := evNext_len hm
  cases f with
  | zero => omega
  | succ f =>
    refine ⟨by rw [List.length_append, List.length_singleton]; omega, f, by omega, ?_⟩
    rw [h3, splitF_succ, if_neg hm.1, if_pos hm.2]
    simp [evNext]
theorem SR.done {l : List UInt8} {most : Int} {acc : List (List UInt8)} {s : List UInt8} (h : SR l most acc s) (hm : ¬ evMore most s) : splitF (l.length + 1) l most = (acc, s, if s = [] then 0 else (getF s most).2.2) := by
  obtain ⟨h1, f, h2, h3⟩ := h
  cases f with
  | zero => omega
  | succ f =>
    rw [h3, splitF_succ]
    by_cases hs : s = []
    · rw [if_pos hs]; simp [hs]
    · rw [if_neg hs, if_neg (fun h => hm ⟨hs, h⟩), if_neg hs]; simp
/-- The frame of Split as the walk has it. -/
def spTmps (l : List UInt8) (most : Int) (h : Nat) (x y z u : Value) : Array Value :=
  #[.string (bs l), .int .i64 most, .pointer (some ⟨h, 0, none⟩), undef, .slice none 0 0, .int .i64 0, .int .i64 0, .pointer (some ⟨h + 1, 0, none⟩), .pointer (some ⟨h + 1 + 1, 0, none⟩), .pointer (some ⟨h + 1 + 1 + 1, 0, none⟩), x, y, .string (bs l), .int .i64 most,
    .func (Fn.func 33) #[] #[.pointer (some ⟨h + 1 + 1 + 1 + 1, 0, none⟩), .pointer (some ⟨h + 1 + 1 + 1 + 1 + 1, 0, none⟩), .pointer (some ⟨h + 1 + 1 + 1 + 1 + 1 + 1, 0, none⟩)], z, u, undef, undef, undef, undef, undef, undef, undef, undef, undef, undef, undef, undef]
theorem elemStr : Elem Try.prog 9 (.string ⟨#[]⟩) 1 16 := by unfold Elem; kernel_rfl
set_option maxRecDepth 100000 in
set_option maxHeartbeats 4000000 in
theorem split_any (l : List UInt8) (most : Int) (w : World) (hl : l.length ≤ 1000000) (hm : most ≤ 9223372036854775807) :
    Calls Try.prog 16 #[.string (bs l), .int .i64 most] w fun e w' => ∃ v, e = .returned (.tuple #[v, .int .i64 ((l.length : Int) - ((splitF (l.length + 1) l most).2.1.length : Int)), .int .i64 ((splitF (l.length + 1) l most).2.2 : Int)]) ∧
      w'.ownsRow w.heap.size 9 1 v (splitF (l.length + 1) l most).1.length ((splitF (l.length + 1) l most).1.flatMap encT) ∧ Below w.heap.size w w' := by
  have HM := Lib.hid hm
  refine (callsIn_wide (n := 3)).1 ?_
  refine callsIn_of_wp_marks Try.func16 rfl trivial ?_ rfl
  simp only [Try.ntmps16, List.size_toArray, List.length_cons, List.length_nil, Nat.reduceAdd, Nat.reduceSub, Array.replicate_succ, Array.replicate_zero, List.push_toArray, List.append_toArray, List.nil_append, List.cons_append]
  gi_wp2_with (gi_at_call 25; refine (callsIn_wide.2 (each_any _ _ _ _)).mono ?_; rintro e w' ⟨rfl, rfl⟩)
  obtain ⟨h, hh⟩ : ∃ h, w.heap.size = h := ⟨_, rfl⟩
  rw [hh]
  have hboth : ∃ w7 : World, (((((((w.alloc (.cells #[.string (bs l)] 9)).alloc (.cells #[.slice none 0 0] 33)).alloc (.cells #[.int .i64 0] 3)).alloc (.cells #[.int .i64 0] 28)).alloc (.cells #[.string (bs l)] 9)).alloc (.cells #[.int .i64 most] 3)).alloc (.cells #[.pointer (some ⟨h + 1 + 1 + 1, 0, none⟩)] 53)) = w7 ∧
      w7.heap.size = h + 7 ∧ SpM w h l most w7 (.slice none 0 0) [] 0 l 0 := by
    refine ⟨_, rfl, by simp [hh], ?_, ?_, ?_, ?_, ?_, ?_, ?_, by omega, World.ownsRow_nil _ _ _ _, ?_, by simp [hh], rfl, rfl, rfl⟩
    · rw [heap_past _ _ (by simp; omega), heap_past _ _ (by simp; omega), heap_past _ _ (by simp; omega), heap_past _ _ (by simp; omega), heap_past _ _ (by simp; omega), heap_past _ _ (by simp; omega)]; exact heap_at _ _ hh.symm
    · rw [heap_past _ _ (by simp; omega), heap_past _ _ (by simp; omega), heap_past _ _ (by simp; omega), heap_past _ _ (by simp; omega), heap_past _ _ (by simp; omega)]; exact heap_at _ _ (by simp [hh])
    · rw [heap_past _ _ (by simp; omega), heap_past _ _ (by simp; omega), heap_past _ _ (by simp; omega), heap_past _ _ (by simp; omega)]; exact heap_at _ _ (by simp [hh])
    · rw [heap_past _ _ (by simp; omega), heap_past _ _ (by simp; omega), heap_past _ _ (by simp; omega)]; exact heap_at _ _ (by simp [hh])
    · rw [heap_past _ _ (by simp; omega), heap_past _ _ (by simp; omega)]; exact heap_at _ _ (by simp [hh])
    · rw [heap_past _ _ (by simp; omega)]; exact heap_at _ _ (by simp [hh])
    · exact heap_at _ _ (by simp [hh])
    · intro k hk
      rw [heap_past _ _ (by simp; omega), heap_past _ _ (by simp; omega), heap_past _ _ (by simp; omega), heap_past _ _ (by simp; omega), heap_past _ _ (by simp; omega), heap_past _ _ (by simp; omega), heap_past _ _ (by omega)]
  obtain ⟨w7, hw7, z7, m7⟩ := hboth
  rw [hw7]
  clear hw7 hm
  have hworkS : ∀ {W W' : World} {sv : Value} {acc : List (List UInt8)} {used : Int} {s : List UInt8} {sh : Int}, SpM w h l most W sv acc used s sh → evWork (h + 1 + 1 + 1) most s W W' → (s ≠ [] → SpM w h l most W' sv acc used s ((getF s most).2.2 : Int)) ∧ (s = [] → SpM w h l most W' sv acc used s sh) := by
    intro W W' sv acc used s sh m hw
    rcases hw with ⟨h1, rfl⟩ | ⟨h1, W2, hb, rfl⟩
    · exact ⟨fun h2 => absurd h1 h2, fun _ => m⟩
    · exact ⟨fun _ => (m.below hb).setSh _, fun h2 => absurd h2 h1⟩
  refine wpIn_rangeFunc_rel (σ := List UInt8) (gf := 33) (lb := #[.pointer (some ⟨h + 1 + 1 + 1 + 1, 0, none⟩), .pointer (some ⟨h + 1 + 1 + 1 + 1 + 1, 0, none⟩), .pointer (some ⟨h + 1 + 1 + 1 + 1 + 1 + 1, 0, none⟩)]) rfl (enters_of Try.func33 (by kernel_rfl) rfl)
    (each_iter (h + 1 + 1 + 1 + 1) (h + 1 + 1 + 1 + 1 + 1) (h + 1 + 1 + 1 + 1 + 1 + 1) (h + 1 + 1 + 1) most l HM.out (by omega) (by omega) (by omega) (by omega) (by omega)) (fun _ => rfl) ?k0 ?ks
    (fun s W => ∃ sv acc, SR l most acc s ∧ SpM w h l most W sv acc ((l.length : Int) - (s.length : Int)) s 0)
    (fun s W => ∃ sv acc, SR l most acc (evNext most s) ∧ SpM w h l most W sv acc ((l.length : Int) - ((evNext most s).length : Int)) s 0)
    (fun s W => ∃ sv acc, SR l most acc s ∧ SpM w h l most W sv acc ((l.length : Int) - (s.length : Int)) s (if s = [] then 0 else ((getF s most).2.2 : Int)))
    ?own' ?step ?stepE ?hI ?hI' ?hE ?begins ?start ?startE (fun s => { tmps := spTmps l most h (.string (bs (getF s most).1)) (.string (bs (getF s most).2.1)) (.string (bs (getF s most).1)) (.string (bs (getF s most).2.1)), defers := [] }) ?assign ?body ?done
  case k0 =>
    rintro W W' hz (⟨-, rfl⟩ | ⟨-, W2, hb, rfl⟩)
    · exact KeepsNon.refl _ _
    · exact (KeepsNon.below hb).trans (KeepsNon.setCell _ _ _ _)
  case ks =>
    rintro s W W' (⟨-, rfl⟩ | ⟨-, W2, hb, rfl⟩)
    · exact KeepsNon.setCell _ _ _ _
    · exact ((KeepsNon.setCell _ _ _ _).trans (KeepsNon.below hb)).trans (KeepsNon.setCell _ _ _ _)
  case own' => rintro s W ⟨sv, acc, -, m⟩; exact m.ev
  case step =>
    rintro s W W' hm ⟨sv, acc, hr, m⟩ hw hm2
    have m2 := (hworkS (m.setS (evNext most s) (by have := hr.1; omega)) hw).1 hm2.1
    rw [hm2.2] at m2
    exact ⟨sv, acc, hr, m2⟩
  case stepE =>
    rintro s W W' hm ⟨sv, acc, hr, m⟩ hw hm2
    have m2 := hworkS (m.setS (evNext most s) (by have := hr.1; omega)) hw
    refine ⟨sv, acc, hr, ?_⟩
    by_cases he : evNext most s = []
    · rw [if_pos he]; exact m2.2 he
    · rw [if_neg he]; exact m2.1 he
  case hI => rintro s W k o o' ⟨sv, acc, hr, m⟩ hk ho hc; exact ⟨sv, acc, hr, m.putObj (by omega) ho hc⟩
  case hI' => rintro s W k o o' ⟨sv, acc, hr, m⟩ hk ho hc; exact ⟨sv, acc, hr, m.putObj (by omega) ho hc⟩
  case hE => rintro s W k o o' ⟨sv, acc, hr, m⟩ hk ho hc; exact ⟨sv, acc, hr, m.putObj (by omega) ho hc⟩
  case begins =>
    intro o1 o2
    exact ((m7.below ((Below.refl _ _).alloc (Nat.le_refl _) o1)).below ((Below.refl _ _).alloc (Nat.le_refl _) o2)).ev
  case start =>
    intro o1 o2 W' _ _ hw hm2
    have m2 := (hworkS ((m7.below ((Below.refl _ _).alloc (Nat.le_refl _) o1)).below ((Below.refl _ _).alloc (Nat.le_refl _) o2)) hw).1 hm2.1
    rw [hm2.2] at m2
    refine ⟨.slice none 0 0, [], SR.start l most, ?_⟩
    rw [Int.sub_self]; exact m2
  case startE =>
    intro o1 o2 W' _ _ hw hm2
    have m2 := hworkS ((m7.below ((Below.refl _ _).alloc (Nat.le_refl _) o1)).below ((Below.refl _ _).alloc (Nat.le_refl _) o2)) hw
    refine ⟨.slice none 0 0, [], SR.start l most, ?_⟩
    rw [Int.sub_self]
    by_cases he : l = []
    · rw [if_pos he]; exact m2.2 he
    · rw [if_neg he]; exact m2.1 he
  case assign =>
    intro r m s W K hK
    unfold evEncs
    unfold spTmps at hK
    gi_wp2
    exact hK
  case body =>
    rintro r mm s W hm ⟨sv, acc, hr, m⟩
    have HMM := Lib.hid m
    have hsr := hr.step hm
    have hal : acc.length ≤ 1000000 := by have := hr.1; omega
    obtain ⟨i0, hi, hz0, hz1, hz2⟩ := info_parts elemStr
    have hown := m.own
    have C1 : W.cell? ⟨h + 1, 0, none⟩ = some sv := by rw [cell_of_row W _ _ _ _ _ m.r1]; rfl
    have HSR := Lib.hid hsr
    obtain ⟨gb, hgb⟩ : ∃ gb, (getF s most).1 = gb := ⟨_, rfl⟩
    obtain ⟨gr, hgr⟩ : ∃ gr, (getF s most).2.1 = gr := ⟨_, rfl⟩
    rw [hgb] at HSR
    have hNX : evNext most s = gr := hgr
    rw [hNX] at HSR
    have hgl : gr.length ≤ l.length := by have := HSR.out.1; rw [List.length_append] at this; omega
    rw [hgb, hgr]
    unfold spTmps
    clear hr m hm hsr hgb hgr
    have C0 : W.cell? ⟨h, 0, none⟩ = some (.string (bs l)) := by rw [cell_of_row W _ _ _ _ _ HMM.out.r0]; rfl
    have HLL := Lib.hid (fun (w1 : World) (hg : (W.alloc (.cells #[.string (bs gb)] 9 (0, 0))).grownBy w1 sv.ownBlock) => (HMM.out.grown hg))
    have hzl := bs_size l
    have hzr := bs_size gr
    gi_wp2_with (gi_at_builtin; refine wpListIn_append_own (W.alloc (.cells #[.string (bs gb)] 9 (0, 0))) rfl _ _ 33 rfl (h + 7) 9 i0 (.string ⟨#[]⟩) 1 16 Try.underlying33 hi hz0 hz1 hz2 rfl (by decide) sv acc.length (acc.flatMap encT) rfl (hown.alloc _) ⟨W.heap.size, 0, none⟩ 1 1 [.string (bs gb)] rfl rfl (fun j u hj => by
          have hp : (⟨W.heap.size, 0, none⟩ : Addr).add j = ⟨W.heap.size, j, none⟩ := by unfold Addr.add; split <;> simp_all
          rw [hp, World.cell?_alloc_mark]; simpa using hj) (fun u hu => by simp at hu; rw [hu]; rfl) (by unfold maxLen; omega) (by omega) (by have := HMM.out.size; simp; omega) ?_; intro v' w1 hown1 hgrow hnil
                 obtain ⟨gg, cap, rfl⟩ := ownsRow_succ hown1
                 have hk1 := (HLL.out _ hgrow).1
                 have D0 : w1.cell? ⟨h, 0, none⟩ = some (.string (bs l)) := by rw [cell_of_row w1 _ _ _ _ _ ((hk1 _ (by omega)).trans HMM.out.r0)]; rfl
                 have D1 : w1.cell? ⟨h + 1, 0, none⟩ = some sv := by rw [cell_of_row w1 _ _ _ _ _ ((hk1 _ (by omega)).trans HMM.out.r1)]; rfl
                 have F1 : w1.frozen? ⟨h + 1, 0, none⟩ = false := frozen_of_row w1 _ _ _ _ ((hk1 _ (by omega)).trans HMM.out.r1)
                 have D2 : w1.cell? ⟨h + 1 + 1, 0, none⟩ = some (.int .i64 ((l.length : Int) - (s.length : Int))) := by rw [cell_of_row w1 _ _ _ _ _ ((hk1 _ (by omega)).trans HMM.out.r2)]; rfl
                 have F2 : w1.frozen? ⟨h + 1 + 1, 0, none⟩ = false := frozen_of_row w1 _ _ _ _ ((hk1 _ (by omega)).trans HMM.out.r2)
                 have F3 : (w1.setCell ⟨h + 1, 0, none⟩ (.slice (some ⟨gg, 0, none⟩) (acc.length + 1) cap)).frozen? ⟨h + 1 + 1, 0, none⟩ = false := frozen_of_row _ _ _ _ _ ((heap_setCell_other _ _ _ _ (by simp)).trans ((hk1 _ (by omega)).trans HMM.out.r2))
                 have HEND := Lib.hid (show KeepsNon w7.heap.size W ((w1.setCell ⟨h + 1, 0, none⟩ (.slice (some ⟨gg, 0, none⟩) (acc.length + 1) cap)).setCell ⟨h + 1 + 1, 0, none⟩ (.int .i64 ((l.length : Int) - (gr.length : Int)))) ∧ ∃ sv2 acc2, SR l most acc2 (evNext most s) ∧ SpM w h l most ((w1.setCell ⟨h + 1, 0, none⟩ (.slice (some ⟨gg, 0, none⟩) (acc.length + 1) cap)).setCell ⟨h + 1 + 1, 0, none⟩ (.int .i64 ((l.length : Int) - (gr.length : Int)))) sv2 acc2 ((l.length : Int) - ((evNext most s).length : Int)) s 0 from
                   ⟨by rw [z7]; exact (((HLL.out _ hgrow).2.2.2.2.2).trans (KeepsNon.setCell _ _ _ _)).trans (KeepsNon.setCell _ _ _ _), _, _, by rw [hNX]; exact HSR.out, by rw [hNX]; exact (HMM.out.setL hgrow hown1).setU _⟩)
                 clear hk1 hown1 hgrow hnil hown)
    exact HEND.out
  case done =>
    rintro D s W hD hm ⟨sv, acc, hr, m⟩ hK
    have hsp := hr.done hm
    have hm2 := m.putObj (o' := .deferred none) (by omega) hK rfl
    obtain ⟨sh, hsh⟩ : ∃ sh : Int, (if s = [] then (0 : Int) else ((getF s most).2.2 : Int)) = sh := ⟨_, rfl⟩
    have hsh2 : (((if s = [] then 0 else (getF s most).2.2) : Nat) : Int) = sh := by rw [← hsh]; split <;> rfl
    rw [hsh] at m hm2
    have HSP := Lib.hid (And.intro hsp hsh2)
    have C1 : W.cell? ⟨h + 1, 0, none⟩ = some sv := by rw [cell_of_row W _ _ _ _ _ m.r1]; rfl
    have C2 : W.cell? ⟨h + 1 + 1, 0, none⟩ = some (.int .i64 ((l.length : Int) - (s.length : Int))) := by rw [cell_of_row W _ _ _ _ _ m.r2]; rfl
    have C3 : W.cell? ⟨h + 1 + 1 + 1, 0, none⟩ = some (.int .i64 sh) := by rw [cell_of_row W _ _ _ _ _ m.r3]; rfl
    have HF : Hid (∀ nq : Nat, ((W.drewN nq).putObj D (.deferred none)).ownsRow h 9 1 sv acc.length (acc.flatMap encT) ∧ Below h w ((W.drewN nq).putObj D (.deferred none))) := Lib.hid (fun nq => by
      refine ⟨?_, ⟨hm2.os, hm2.tape, hm2.output, ?_, fun k hk => hm2.old k hk⟩⟩
      · have := hm2.own
        obtain ⟨h1, h2⟩ := this
        refine ⟨h1, ?_⟩
        rcases h2 with h2 | ⟨g, cap, cur, hv, hg, rest⟩
        · exact .inl h2
        · exact .inr ⟨g, cap, cur, hv, by omega, rest⟩
      · have := hm2.size; rw [hh]; simp [World.putObj] at this ⊢; omega)
    clear hm2 m hr hsp hsh hsh2 hm
    gi_wp2_with fail
    refine wpIn_wide.2 ?_
    go_quiet (fail)
    gi_wp2
    refine ⟨by simp, .inl ⟨_, _, rfl, run_takeDeferred (show (W.drewN nq).heap[D]? = _ from hK), ?_⟩⟩
    refine ⟨_, results_tmp3 rfl _ _ _, sv, ?_, ?_⟩
    · rw [HSP.out.1, ← HSP.out.2]; rfl
    · rw [HSP.out.1, hh]; exact HF.out nq
end Go.Proofs.Ytmaehbcjcifchaa.FrW
