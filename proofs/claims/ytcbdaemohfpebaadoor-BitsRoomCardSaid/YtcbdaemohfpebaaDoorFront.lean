/-
  A REGION THAT DRAWS ITS ORDER IN ITS FIRST FEW OPERATIONS ALONE: all their orders by hand, to ONE state; what follows, once.
-/
import Derived.Test.YtcbdaemohfpebaaDoorRows
import Derived.StillTail
import Derived.OrdersHeld
namespace Go.Proofs.YtcbdaemohfpebaaDoor
open Go
section
variable {P : Program} {ops : Array Oper} {Q : Exit → Act → World → Prop}
def wpAnyK (P : Program) (ops : Array Oper) (Q : Exit → Act → World → Prop) (K : Array Bool → Act → World → Prop) : Nat → Array Bool → Act → World → Prop
  | 0, listed, a, w => K listed a w
  | f + 1, listed, a, w => Region.ready .any ops listed ≠ [] ∧ ∀ i ∈ Region.ready .any ops listed, wpOp P ops Q i (fun a' w' => wpAnyK P ops Q K f (listed.setIfInBounds i true) a' w') a w
theorem wpAny_of_K (g : Nat) : ∀ (f : Nat) (listed : Array Bool) (a : Act) (w : World), wpAnyK P ops Q (wpAny P .any ops Q g) f listed a w → wpAny P .any ops Q (f + g) listed a w
  | 0, _, _, _, h => by rw [Nat.zero_add]; exact h
  | f + 1, _, _, _, h => by
    rw [show f + 1 + g = (f + g) + 1 by omega]
    exact ⟨fun h0 => absurd h0 h.1, fun i hi => wpOp_mono (fun a' w' h' => wpAny_of_K g f _ a' w' h') (h.2 i hi)⟩
theorem wpAny_five {a : Act} {w : World} {L : Array Bool} (g : Nat) (d0 d1 d2 d3 d4 : Option Tmp) (v0 v1 v2 v3 v4 : Value) (L5 : Array Bool) (w5 : World)
    (front : ∀ K : Array Bool → Act → World → Prop, K L5 (((((a.put d0 v0).put d1 v1).put d2 v2).put d3 v3).put d4 v4) w5 → wpAnyK P ops Q K 5 L a w)
    (tail : wpAny P .any ops Q g L5 (((((a.put d0 v0).put d1 v1).put d2 v2).put d3 v3).put d4 v4) w5) : wpAny P .any ops Q (5 + g) L a w :=
  wpAny_of_K g 5 L a w (front _ tail)
theorem K_conv {K : Array Bool → Act → World → Prop} {L L' : Array Bool} {a a' : Act} {w w' : World} (h : K L a w) (e1 : L' = L) (e2 : a' = a) (e3 : w' = w) : K L' a' w' := by subst e1 e2 e3; exact h
variable {K : Array Bool → Act → World → Prop} {f : Nat} {listed : Array Bool} {a : Act} {w : World}
theorem front_one {i : Nat} (hr : Region.ready .any ops listed = [i]) (h : wpOp P ops Q i (fun a' w' => wpAnyK P ops Q K f (listed.setIfInBounds i true) a' w') a w) : wpAnyK P ops Q K (f + 1) listed a w :=
  ⟨by rw [hr]; simp, by rw [hr]; intro j hj; obtain rfl : j = i := by simpa using hj
                        exact h⟩
theorem front_two {i k : Nat} (hr : Region.ready .any ops listed = [i, k]) (h : wpOp P ops Q i (fun a' w' => wpAnyK P ops Q K f (listed.setIfInBounds i true) a' w') a w) (h' : wpOp P ops Q k (fun a' w' => wpAnyK P ops Q K f (listed.setIfInBounds k true) a' w') a w) : wpAnyK P ops Q K (f + 1) listed a w :=
  ⟨by rw [hr]; simp, by
    rw [hr]; intro j hj
    have : j = i ∨ j = k := by simpa using hj
    rcases this with rfl | rfl
    · exact h
    · exact h'⟩
theorem op_val {i : Nat} {oi : Oper} {N : Act → World → Prop} (v : Value) (w' : World) (hi : ops[i]? = some oi) (hg : oi.guard = none) (hy : (execOp a.eval oi).run P w = .ok (.value v) w') (h : N (a.put oi.dst v) w') : wpOp P ops Q i N a w := by
  unfold wpOp
  simp only [hi]
  rw [if_pos (by simp [Region.wanted, hg])]
  refine .inl ?_
  unfold Oper.wp
  rw [hy]
  exact h
theorem op_call {i : Nat} {oi : Oper} {N : Act → World → Prop} (v : Value) (fn : FuncId) (args : Array Value) (hi : ops[i]? = some oi) (hg : oi.guard = none) (hy : (execOp a.eval oi).run P w = .ok (.enter fn args) w) (hc : Calls P fn args w fun e w' => e = .returned v ∧ w = w') (h : N (a.put oi.dst v) w) : wpOp P ops Q i N a w := by
  unfold wpOp
  simp only [hi]
  rw [if_pos (by simp [Region.wanted, hg])]
  refine .inl ?_
  unfold Oper.wp
  rw [hy, Oper.upon_enter]
  refine hc.mono ?_
  rintro e w' ⟨rfl, rfl⟩
  exact h
theorem any_seq {l : List Oper} (n g : Nat) (hs : (l.drop n).length = g) (hB : Region.seqB .any l.toArray g n listed = true) (h : wpList P l.toArray Q (l.drop n) a w) : wpAny P .any l.toArray Q g listed a w := by
  subst hs
  exact wpAny_of_seq (md := .any) (Q' := Q) (l.drop n) n listed a w (fun j => by simp [List.getElem?_drop]) hB h
end
end Go.Proofs.YtcbdaemohfpebaaDoor
