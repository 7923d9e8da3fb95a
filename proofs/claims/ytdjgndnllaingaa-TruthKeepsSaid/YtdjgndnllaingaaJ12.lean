/-
  alluviumlaw06.Few: THE WALK.
  A REGION WITHIN A ROUND OF A RANGE OVER A FUNCTION, FROM ITS WALK OUTSIDE: nothing in it is deferred.
-/
import Derived.Test.YtdjgndnllaingaaJ11
import Derived.Test.YtdjgndnllaingaaJ04
import Derived.RangeFuncNested
import Derived.RangeFuncBound
import Derived.RangeFuncCalls
import Derived.RangeFuncLeaves
import Derived.TacticsInMore
import Derived.OwnWalkIn
import Derived.LoopIn
import Derived.StillTail
import Derived.StillTailTactics
import Derived.Deep.QuietTactic
import Derived.BigQuiet
import Derived.OrdersHeld
/-
  alluviumlaw06.Few: THE WALK.
-/
namespace Go.Proofs.Ytdjgndnllaingaa.FrW
set_option linter.unusedVariables false
open Go.RowKit FrM LabM LbM LabW
def shortB (l : List Lab) : Bool := l.all fun x => decide (x.1.size ≤ 300) && decide (x.2.size ≤ 300)
theorem shortB_iff (l : List Lab) : shortB l = true ↔ shortL l := by
  unfold shortB shortL
  rw [List.all_eq_true]
  constructor
  · intro h x hx
    have := h x hx
    simpa using this
  · intro h x hx
    have := h x hx
    simpa using this
/-- Are there so few labels, and so short? -/
def fewB (l : List Lab) : Bool := decide (l.length ≤ 10) && shortB l
theorem fewB_iff (l : List Lab) : fewB l = true ↔ l.length ≤ 10 ∧ shortL l := by unfold fewB; rw [Bool.and_eq_true, decide_eq_true_eq, shortB_iff]
theorem few_no {l : List Lab} {k : Nat} (h : k < l.length) (h2 : 300 < l[k].1.size ∨ 300 < l[k].2.size) : fewB l = false := by
  cases hf : fewB l with
  | false => rfl
  | true =>
    have := ((fewB_iff l).1 hf).2 _ (List.getElem_mem h)
    omega
theorem few_short {l : List Lab} (h : ∀ k, (h : k < l.length) → k < 11 → l[k].1.size ≤ 300 ∧ l[k].2.size ≤ 300) : fewB l = decide (l.length ≤ 10) := by
  unfold fewB
  by_cases hl : l.length ≤ 10
  · rw [(shortB_iff l).2 (fun x hx => by obtain ⟨k, hk, rfl⟩ := List.getElem_of_mem hx; exact h k hk (by omega)), Bool.and_true]
  · rw [decide_eq_false hl]; rfl
set_option maxRecDepth 20000 in
set_option maxHeartbeats 1000000 in
theorem few_any (A : Option Addr) (n c : Nat) (l : List Lab) (w : World) (hl : Comes w 2 encL okL A n c l) :
    Calls Try.prog 17 #[.slice A n c] w fun e w' => e = .returned (.bool (fewB l)) ∧ Below w.heap.size w w' := by
  have HL := Lib.hid hl
  have hcap : c ≤ 9223372036854775807 := hl.cap
  have hle := hl.le
  have hln := Lib.hid hl.len
  obtain ⟨R, hR⟩ : ∃ R, fewB l = R := ⟨_, rfl⟩
  rw [hR]
  have HR := Lib.hid hR
  clear hl hR
  go_enter Try.func17, Try.ntmps17
  go_wp2_with fail
  go_loopw [3] (fun v3 wr => ∃ (k : Nat), k ≤ n ∧ k ≤ 11 ∧ v3 = .int .i64 k ∧ (∀ j, (h : j < l.length) → j < k → l[j].1.size ≤ 300 ∧ l[j].2.size ≤ 300) ∧ Below w.heap.size w wr) (fun v3 _ => n - (intOf v3).toNat)
  case atStart => exact ⟨0, Nat.zero_le _, Nat.zero_le _, rfl, fun j h h2 => by omega, Below.refl _ _⟩
  case round =>
    obtain ⟨k, hk, hk11, rfl, hsh, ho⟩ := hrel
    by_cases hgo : k < n ∧ k ≤ 10
    · obtain ⟨hlt, h10⟩ := hgo
      have hkl : k < l.length := by have := hln.out; omega
      obtain ⟨b, o, rfl, hcs⟩ := lab_cells HL.out.lies hkl
      obtain ⟨hc0, hc1⟩ := hcs _ ho
      have HNO := Lib.hid (few_no hkl)
      have HSH : Hid (l[k].1.size ≤ 300 → l[k].2.size ≤ 300 → ∀ j, (h : j < l.length) → j < k + 1 → l[j].1.size ≤ 300 ∧ l[j].2.size ≤ 300) := Lib.hid (fun h1 h2 j h h3 => by
        by_cases hj : j = k
        · subst hj; exact ⟨h1, h2⟩
        · exact hsh j h (by omega))
      generalize hx : l[k] = x at *
      obtain ⟨x1, x2⟩ := x
      simp only [] at hc0 hc1 HNO HSH
      have HO := Lib.hid ho
      have k0 : (0 : Int) ≤ (k : Int) := by omega
      have k1 : (k : Int) < (n : Int) := by omega
      have k2 : (k : Int) ≤ 10 := by omega
      obtain ⟨z1, hz1⟩ : ∃ z, x1.size = z := ⟨_, rfl⟩
      obtain ⟨z2, hz2⟩ : ∃ z, x2.size = z := ⟨_, rfl⟩
      rw [hz1, hz2] at HNO HSH
      clear ho hcs hsh hx
      by_cases h1 : 300 < z1
      · have hRf : R = false := by rw [← HR.out]; exact HNO.out (.inl h1)
        subst hRf
        have m1 : (z1 : Int) > 300 := by omega
        go_wp2_with fail
        go_ret
        exact ⟨rfl, HO.out⟩
      · have m1 : ¬ (z1 : Int) > 300 := by omega
        by_cases h2 : 300 < z2
        · have hRf : R = false := by rw [← HR.out]; exact HNO.out (.inr h2)
          subst hRf
          have m2 : (z2 : Int) > 300 := by omega
          go_wp2_with fail
          go_ret
          exact ⟨rfl, HO.out⟩
        · have m2 : ¬ (z2 : Int) > 300 := by omega
          have HS2 := Lib.hid (HSH.out (by omega) (by omega))
          go_wp2_with fail
          go_roundw
          case rel => exact ⟨k + 1, by omega, by omega, by go_num, HS2.out, HO.out⟩
          case measure => simp [intOf]; omega
    · have hR2 : R = decide (n ≤ 10) := by
        have h2 := few_short (l := l) (fun j h hj => hsh j h (by have := hln.out; omega))
        rw [← HR.out, h2, hln.out]
      have HO := Lib.hid (And.intro ho hR2)
      clear ho hsh hR2
      by_cases hn : n ≤ 10
      · have hkn : k = n := by omega
        subst hkn
        have m1 : (k : Int) ≤ 10 := by omega
        clear hgo
        go_wp2_with fail
        go_ret
        exact ⟨by rw [HO.out.2, decide_eq_true hn]; rfl, HO.out.1⟩
      · have m1 : ¬ (n : Int) ≤ 10 := by omega
        have hk2 : k = 11 := by omega
        subst hk2
        clear hgo
        rcases (show n = 11 ∨ 11 < n by omega) with h11 | h11
        · subst h11
          go_wp2_with fail
          go_ret
          exact ⟨by rw [HO.out.2, decide_eq_false hn]; rfl, HO.out.1⟩
        · have m3 : (11 : Int) < (n : Int) := by omega
          go_wp2_with fail
          go_ret
          exact ⟨by rw [HO.out.2, decide_eq_false hn]; rfl, HO.out.1⟩
end Go.Proofs.Ytdjgndnllaingaa.FrW
/-
  A REGION WITHIN A ROUND OF A RANGE OVER A FUNCTION, FROM ITS WALK OUTSIDE: nothing in it is deferred.
-/
namespace Go.Proofs.Ytdjgndnllaingaa
open Go Go.RowKit
/-- No operation defers. -/
def noDefer (l : List Oper) : Bool := l.all fun o => match o.op with | .defer _ => false | _ => true
theorem noDefer_spec {l : List Oper} (h : noDefer l = true) {o : Oper} (ho : o ∈ l) : ∀ c, o.op ≠ .defer c := by
  intro c hc
  have := List.all_eq_true.1 h o ho
  rw [hc] at this
  cases this
variable {P : Program} {ops : Array Oper} {Q : Exit → Act → World → Prop}
theorem uponIn_of_upon {r : Nat} {n : Nat} {o : Oper} {a : Act} {next next' : Act → World → Prop} (hn : ∀ a w, next a w → next' a w) {x : Result Next} (hx : o.upon P a next Q x) : o.uponIn (Fence.wide.inRound r) n P a next' Q x := by
  have hdep : (Fence.wide.inRound r).depth.isSome = true → 1 ≤ n := fun h => by cases h
  cases x with
  | ok y w' =>
    cases y with
    | value v => exact hn _ _ hx
    | skip => exact hn _ _ hx
    | defer d => exact hn _ _ hx
    | enter f args =>
      refine ⟨hdep, CallsIn.inRound r (callsIn_wide.2 ?_)⟩
      have hc : Calls P f args w' _ := hx
      refine hc.mono fun e w'' he => ?_
      cases e with
      | returned v => exact hn _ _ he
      | panicked c => exact he
      | outgrown => exact he
    | row row args =>
      refine ⟨hdep, fun c cs _ => ?_⟩
      have hc : Rows P row args w' _ := hx
      obtain ⟨v, w'', hR, hs⟩ := hc c cs
      exact ⟨v, w'', hn _ _ hR, stepsIn_wide.2 hs⟩
    | _ => exact hx.elim
  | halt y w' =>
    cases y with
    | panic v => exact hx
    | _ => exact hx.elim
theorem wpOpsIn_of_wpOps {r n : Nat} (hQ : ¬ LetsOut Q) (hd : noDefer ops.toList = true) : ∀ (l : List Nat) (a : Act) (w : World), wpOps P ops Q l a w → wpOpsIn (Fence.wide.inRound r) n P ops Q l a w
  | [], a, w, h => h
  | i :: rest, a, w, h => by
    simp only [wpOps] at h
    simp only [wpOpsIn]
    cases ho : ops[i]? with
    | none => rw [ho] at h; exact wpOpsIn_of_wpOps hQ hd rest a w h
    | some o =>
      rw [ho] at h
      have hm : o ∈ ops.toList := by
        have := Array.mem_of_getElem? ho
        simpa using this
      dsimp only at h ⊢
      split at h
      · rename_i hw
        rw [if_pos hw]
        rcases h with h | ⟨_, h⟩
        · refine ⟨fun f _ => trivial, ?_⟩
          rw [show (Fence.wide.inRound r).round = some r from rfl, Oper.semAt_some r a.eval o (noDefer_spec hd hm)]
          exact uponIn_of_upon (fun a w => wpOpsIn_of_wpOps hQ hd rest a w) h
        · exact absurd h hQ
      · rename_i hw
        rw [if_neg hw]
        exact ⟨fun f _ => trivial, wpOpsIn_of_wpOps hQ hd rest _ w h⟩
/-- A region that draws its order, within a round. -/
theorem wpIn_round_any {r n id : Nat} {a : Act} {w : World} (hm : P.follows .mixedOrders = true) (hQ : ¬ LetsOut Q) (hd : noDefer ops.toList = true)
    (h : wpAny P .any ops Q ops.size (Array.replicate ops.size false) a { w with drawn := w.drawn + 1 }) : (Code.region id ops true).wpIn (Fence.wide.inRound r) n P Q a w :=
  wpIn_region_draw fun t => by
    simp only [Region.schedule, hm, Bool.true_or, if_true]
    exact wpOpsIn_of_wpOps hQ hd _ _ _ (wpAny_sound ops.size t _ a _ h)
/-- Reads and quiet calls alone. -/
theorem wpIn_round_quiet {r n id : Nat} {a : Act} {w : World} {l : List Oper} (hm : P.follows .mixedOrders = true) (hB : Region.lexB .any l.toArray = true) (hd : noDefer l = true) (hQ : ¬ LetsOut Q)
    (h : wpQuiet P l.toArray (fun w' => ∃ n, w' = w.drewN n) (fun a' => ∀ w', (∃ n, w' = w.drewN n) → Q .normal a' w') l a) : (Code.region id l.toArray true).wpIn (Fence.wide.inRound r) n P Q a w := by
  simp only [Region.lexB, Bool.and_eq_true] at hB
  refine wpIn_round_any hm hQ (by simpa using hd) (wpAny_of_quiet (C := fun w' => ∃ n, w' = w.drewN n) (Q := fun a' => ∀ w', (∃ n, w' = w.drewN n) → Q .normal a' w') (fun _ w' hw' h => h w' hw') _ _ _ _ ⟨1, rfl⟩ ?_)
  have := wpAnyQ_lex (C := fun w' => ∃ n, w' = w.drewN n) (md := .any) hB.1 l 0 (Array.replicate l.toArray.size false) a (by simp) (by simpa using hB.2) h
  simpa using this
/-- Reads and quiet calls, and behind them what writes, one by one. -/
theorem wpIn_round_still_tail {r n0 id : Nat} {a : Act} {w : World} {l : List Oper} (n : Nat) (hm : P.follows .mixedOrders = true) (hB : Region.lexTailB .any l.toArray n = true) (hd : noDefer l = true) (hQ : ¬ LetsOut Q)
    (h : wpStill P l.toArray { w with drawn := w.drawn + 1 } (fun a' => wpList P l.toArray Q (l.drop n) a' { w with drawn := w.drawn + 1 }) (l.take n) a) : (Code.region id l.toArray true).wpIn (Fence.wide.inRound r) n0 P Q a w := by
  simp only [Region.lexTailB, Bool.and_eq_true, decide_eq_true_eq] at hB
  obtain ⟨⟨⟨⟨hsel, hn⟩, hs⟩, hc⟩, hlex⟩ := hB
  have hn' : n < l.length := by simpa using hn
  have htl : (l.take n).length = n := by simp; omega
  have hdl : (l.drop n).length = l.toArray.size - n := by simp
  have inv0 : HeadInv .any l.toArray n (Array.replicate l.toArray.size false) :=
    ⟨by simp, fun j oj _ hl => (by rw [getD_replicate_false] at hl; cases hl), fun t _ ht => getD_in (by simpa using ht) (getD_replicate_false _ _)⟩
  have H := wpAnyL_lex (md := .any) (g := l.toArray.size - n) hsel hs hc hn (l.take n) 0 _ a (fun j hj => by
    have hj' : j < n := by rw [htl] at hj; exact hj
    simp [hj']) (by simpa using htl) inv0 (by rw [htl]; exact hlex) h
  refine wpIn_round_any hm hQ (by simpa using hd) ?_
  have := wpAny_of_head (Q' := Q) (g := l.toArray.size - n) (fun listed a' hL => by
    have := wpAny_of_seq (md := .any) (Q' := Q) (l.drop n) n listed a' { w with drawn := w.drawn + 1 } (fun j => by simp [List.getElem?_drop]) (by rw [hdl]; exact hL.1) hL.2
    rwa [hdl] at this) _ _ _ H
  rw [htl, show n + (l.toArray.size - n) = l.toArray.size by omega] at this
  exact this
/-- A region in the order of the text, within a round. -/
theorem wpIn_round_plain {r n id : Nat} {a : Act} {w : World} {l : List Oper} (hd : noDefer l = true) (hQ : ¬ LetsOut Q)
    (h : wpOps P l.toArray Q (List.range l.toArray.size) a w) : (Code.region id l.toArray false).wpIn (Fence.wide.inRound r) n P Q a w :=
  wpIn_region (wpOpsIn_of_wpOps hQ (by simpa using hd) _ _ _ h)
/-- What is asked where a region may end normally alone. -/
def Nrm (Q : Exit → Act → World → Prop) : Exit → Act → World → Prop
  | .normal, a, w => Q .normal a w
  | _, _, _ => False
theorem Nrm.imp {Q : Exit → Act → World → Prop} : ∀ e a w, Nrm Q e a w → Q e a w
  | .normal, _, _, h => h
theorem Nrm.normal {Q : Exit → Act → World → Prop} {a : Act} {w : World} (h : Q .normal a w) : Nrm Q .normal a w := h
theorem Nrm.noOut {Q : Exit → Act → World → Prop} : ¬ LetsOut (Nrm Q) := fun ⟨_, _, h⟩ => h
theorem Nrm.panic {Q : Exit → Act → World → Prop} {a b : Act} : ∀ c (w : World), Nrm Q (.panic c) a w → Nrm Q (.panic c) b w := fun _ _ h => h.elim
theorem wpIn_round_quiet' {r n id : Nat} {a : Act} {w : World} {l : List Oper} (hm : P.follows .mixedOrders = true) (hB : Region.lexB .any l.toArray = true) (hd : noDefer l = true)
    (h : wpQuiet P l.toArray (fun w' => ∃ n, w' = w.drewN n) (fun a' => ∀ w', (∃ n, w' = w.drewN n) → Q .normal a' w') l a) : (Code.region id l.toArray true).wpIn (Fence.wide.inRound r) n P Q a w :=
  Code.wpIn_mono Nrm.imp (wpIn_round_quiet (Q := Nrm Q) hm hB hd Nrm.noOut h)
theorem wpIn_round_still_tail' {r n0 id : Nat} {a : Act} {w : World} {l : List Oper} (n : Nat) (hm : P.follows .mixedOrders = true) (hB : Region.lexTailB .any l.toArray n = true) (hd : noDefer l = true)
    (h : wpStill P l.toArray w.drew (fun a' => wpList P l.toArray (Nrm Q) (l.drop n) a' w.drew) (l.take n) a) : (Code.region id l.toArray true).wpIn (Fence.wide.inRound r) n0 P Q a w :=
  Code.wpIn_mono Nrm.imp (wpIn_round_still_tail (Q := Nrm Q) n hm hB hd Nrm.noOut h)
/-- Whatever the order: by what holds of the world all the while. -/
theorem wpIn_round_held {S : World → Prop} {r n id : Nat} {a : Act} {w : World} (hm : P.follows .mixedOrders = true) (hd : noDefer ops.toList = true)
    (h : wpAnyH P .any ops (Nrm Q) S ops.size (Array.replicate ops.size false) a w.drew) : (Code.region id ops true).wpIn (Fence.wide.inRound r) n P Q a w :=
  Code.wpIn_mono Nrm.imp (wpIn_round_any (Q := Nrm Q) hm Nrm.noOut hd (wpAny_of_held _ _ _ _ h))
/-- One operation that comes up now: taken first. -/
theorem held_take {S : World → Prop} (i : Nat) {oi : Oper} (v : Value) {fuel : Nat} {listed : Array Bool} {a : Act} {w : World} (hi : ops[i]? = some oi)
    (hs : Region.noSelect ops = true) (hf : Region.free .any ops listed i = true) (hr : (Region.ready .any ops listed).contains i = true) (hg : oi.guard = none)
    (hy : ∀ w, S w → (execOp a.eval oi).run P w = .ok (.value v) w) (hS : S w)
    (h : wpAnyH P .any ops (Nrm Q) S fuel (listed.setIfInBounds i true) (a.put oi.dst v) w) : wpAnyH P .any ops (Nrm Q) S (fuel + 1) listed a w :=
  wpAnyH_take hi hs hf hr (fun _ _ _ h => h.elim) (.inl ⟨by simp [Region.wanted, hg], hy⟩) hS h
/-- The one operation that may come up. -/
theorem held_one {S : World → Prop} (i : Nat) {oi : Oper} {fuel : Nat} {listed : Array Bool} {a : Act} {w : World} (hi : ops[i]? = some oi) (hr : Region.ready .any ops listed = [i]) (hg : oi.guard = none)
    (h : oi.wp P a w (fun a' w' => S w' ∧ wpAnyH P .any ops (Nrm Q) S fuel (listed.setIfInBounds i true) a' w') (Nrm Q)) : wpAnyH P .any ops (Nrm Q) S (fuel + 1) listed a w :=
  wpAnyH_all hr (by simp) (fun j hj => by
    obtain rfl : j = i := by simpa using hj
    unfold wpOp
    simp only [hi]
    rw [if_pos (by simp [Region.wanted, hg])]
    exact .inl h)
end Go.Proofs.Ytdjgndnllaingaa
