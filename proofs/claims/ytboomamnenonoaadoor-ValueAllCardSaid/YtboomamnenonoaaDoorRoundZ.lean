/-
  A REGION THAT DRAWS ITS ORDER, WITHIN A ROUND, WHOSE LAST OPERATION z WRITES WHAT OTHERS READ: S holds of the world till z.
-/
import Derived.Test.YtboomamnenonoaaDoorRound
namespace Go.Proofs.YtboomamnenonoaaDoor
open Go Go.RowKit
section
variable {P : Program} {ops : Array Oper} {Q : Exit → Act → World → Prop} {S : World → Prop} {z : Nat}
/-- What may come up comes up; S holds behind each but z. -/
def wpTill (P : Program) (ops : Array Oper) (Q : Exit → Act → World → Prop) (S : World → Prop) (z : Nat) : Nat → Array Bool → Act → World → Prop
  | 0, listed, a, w => Region.ready .any ops listed = [] ∧ Q .normal a w
  | f + 1, listed, a, w => (Region.ready .any ops listed = [] → Q .normal a w) ∧ ∀ j ∈ Region.ready .any ops listed, wpOp P ops Q j (fun a' w' => (j ≠ z → S w') ∧ wpTill P ops Q S z f (listed.setIfInBounds j true) a' w') a w
theorem wpAny_of_till : ∀ (f : Nat) (listed : Array Bool) (a : Act) (w : World), wpTill P ops Q S z f listed a w → wpAny P .any ops Q f listed a w
  | 0, _, _, _, h => h
  | f + 1, _, _, _, h => ⟨h.1, fun j hj => wpOp_mono (fun a' w' h' => wpAny_of_till f _ a' w' h'.2) (h.2 j hj)⟩
theorem till_first {i : Nat} {oi : Oper} {v : Value} (hi : ops[i]? = some oi) (hsel : ∀ (j : Nat) (o : Oper) cs b, ops[j]? = some o → o.op ≠ .select cs b) (hQ : ∀ c a w, Q (.panic c) (a.put oi.dst v) w → Q (.panic c) a w) (hiz : i ≠ z)
    (hz : ∀ oz, ops[z]? = some oz → ∃ e ∈ oz.after, Region.binds .any e = true ∧ e.on = i) :
    ∀ (f : Nat) (listed : Array Bool) (a : Act) (w : World), (∀ j oj, ops[j]? = some oj → j ≠ i → listed.getD j true = false → (∀ e ∈ oj.after, Region.binds .any e = true → e.on ≠ i) → oi.apart ops oj = true) →
      i ∈ Region.ready .any ops listed → YieldsIf P ops S oi v a → S w → wpTill P ops Q S z f (listed.setIfInBounds i true) (a.put oi.dst v) w → wpTill P ops Q S z (f + 1) listed a w := by
  intro f
  induction f with
  | zero =>
    intro listed a w _ hr hy hS H
    refine ⟨(fun h => by rw [h] at hr; cases hr), fun j hj => ?_⟩
    by_cases hji : j = i
    · subst hji; exact hy.wpOp hi hS ⟨fun _ => hS, H⟩
    · have := ready_mono hj hji
      rw [H.1] at this; cases this
  | succ f ih =>
    intro listed a w hfree hr hy hS H
    refine ⟨(fun h => by rw [h] at hr; cases hr), fun j hj => ?_⟩
    by_cases hji : j = i
    · subst hji; exact hy.wpOp hi hS ⟨fun _ => hS, H⟩
    obtain ⟨hun, oj, hoj, hall⟩ := mem_ready.1 hj
    have hi0 := (mem_ready.1 hr).1
    have hno : ∀ e ∈ oj.after, Region.binds .any e = true → e.on ≠ i := by
      intro e he hb heq
      have h1 := hall e he hb
      rw [heq] at h1
      rcases Nat.lt_or_ge i listed.size with h' | h'
      · simp [h'] at hi0 h1; rw [hi0] at h1; cases h1
      · simp [Array.getElem?_eq_none h'] at h1
    have hjz : j ≠ z := by
      intro e
      subst e
      obtain ⟨e, he, hb, hon⟩ := hz oj hoj
      exact hno e he hb hon
    have h2 := wpOp_putIf hoj (hfree j oj hoj hji hun hno) (fun cs b => hsel i oi cs b hi) (fun cs b => hsel j oj cs b hoj) hQ hy (H.2 j (ready_mono hj hji))
    refine wpOp_mono (fun a' w' h3 => ⟨fun _ => h3.2.1 hjz, ih (listed.setIfInBounds j true) a' w' (fun k ok hk hki hku hkn => hfree k ok hk hki ?_ hkn) (ready_mono hr (Ne.symm hji)) h3.1 (h3.2.1 hjz) ?_⟩) h2
    · by_cases hjk : j = k
      · subst hjk; exact hun
      · rwa [getD_set_ne true hjk] at hku
    · rw [Array.setIfInBounds_comm _ _ hji]
      exact h3.2.2
/-- The last one waits for i. -/
def waitsB (ops : Array Oper) (z i : Nat) : Bool := match ops[z]? with | some oz => oz.after.any fun e => Region.binds .any e && e.on == i | none => true
theorem waitsB_spec {i : Nat} (h : waitsB ops z i = true) : ∀ oz, ops[z]? = some oz → ∃ e ∈ oz.after, Region.binds .any e = true ∧ e.on = i := by
  intro oz ho
  unfold waitsB at h
  rw [ho] at h
  simp only [Array.any_eq_true] at h
  obtain ⟨k, hk, hb⟩ := h
  simp at hb
  exact ⟨_, Array.getElem_mem hk, hb.1, hb.2⟩
theorem till_take (i : Nat) {oi : Oper} (v : Value) {f : Nat} {listed : Array Bool} {a : Act} {w : World} (hi : ops[i]? = some oi)
    (hs : Region.noSelect ops = true) (hf : Region.free .any ops listed i = true) (hr : (Region.ready .any ops listed).contains i = true) (hiz : i ≠ z) (hz : waitsB ops z i = true) (hg : oi.guard = none)
    (hy : ∀ w, S w → (execOp a.eval oi).run P w = .ok (.value v) w) (hS : S w)
    (h : wpTill P ops (Nrm Q) S z f (listed.setIfInBounds i true) (a.put oi.dst v) w) : wpTill P ops (Nrm Q) S z (f + 1) listed a w :=
  till_first hi (Region.noSelect_spec hs) (fun _ _ _ h => h.elim) hiz (waitsB_spec hz) f listed a w (Region.free_spec hi hf) (by simpa using hr) (.inl ⟨by simp [Region.wanted, hg], hy⟩) hS h
theorem till_one (i : Nat) {oi : Oper} {f : Nat} {listed : Array Bool} {a : Act} {w : World} (hi : ops[i]? = some oi) (hr : Region.ready .any ops listed = [i]) (hg : oi.guard = none)
    (h : ∀ K : Act → World → Prop, (∀ a' w', (i ≠ z → S w') → wpTill P ops (Nrm Q) S z f (listed.setIfInBounds i true) a' w' → K a' w') → oi.wp P a w K (Nrm Q)) : wpTill P ops (Nrm Q) S z (f + 1) listed a w := by
  refine ⟨(fun h0 => by rw [hr] at h0; cases h0), fun j hj => ?_⟩
  rw [hr] at hj
  obtain rfl : j = i := by simpa using hj
  unfold wpOp
  simp only [hi]
  rw [if_pos (by simp [Region.wanted, hg])]
  exact .inl (h _ fun _ _ h1 h2 => ⟨h1, h2⟩)
theorem till_val (i : Nat) {oi : Oper} (v : Value) (w' : World) {f : Nat} {listed : Array Bool} {a : Act} {w : World} (hi : ops[i]? = some oi) (hr : Region.ready .any ops listed = [i]) (hg : oi.guard = none)
    (hy : (execOp a.eval oi).run P w = .ok (.value v) w') (hS : i ≠ z → S w') (h : wpTill P ops (Nrm Q) S z f (listed.setIfInBounds i true) (a.put oi.dst v) w') : wpTill P ops (Nrm Q) S z (f + 1) listed a w :=
  till_one i hi hr hg fun K hK => by
    unfold Oper.wp
    rw [hy]
    exact hK _ _ hS h
theorem till_skip (i : Nat) {oi : Oper} (w' : World) {f : Nat} {listed : Array Bool} {a : Act} {w : World} (hi : ops[i]? = some oi) (hr : Region.ready .any ops listed = [i]) (hg : oi.guard = none)
    (hy : (execOp a.eval oi).run P w = .ok .skip w') (hS : i ≠ z → S w') (h : wpTill P ops (Nrm Q) S z f (listed.setIfInBounds i true) (a.put oi.dst undef) w') : wpTill P ops (Nrm Q) S z (f + 1) listed a w :=
  till_one i hi hr hg fun K hK => by
    unfold Oper.wp
    rw [hy]
    exact hK _ _ hS h
theorem run_append_op {o : Oper} {a : Act} {w w' : World} {s x : Operand} {t : TypeId} {sv xv v' : Value} (ho : o.op = .call { callee := .builtin .append, args := #[s, x], argTypes := #[t, t] }) (hs : a.eval s = sv) (hx : a.eval x = xv)
    (hr : (Builtin.append_ #[t, t] o.type #[sv, xv]).run P w = .ok v' w') : (execOp a.eval o).run P w = .ok (.value v') w' := by
  unfold execOp
  simp only [ho, resolve, invoke, builtin, Sem.run_bind, Sem.run_pure, Result.andThen_ok, List.map_toArray, List.map_cons, List.map_nil, hs, hx, hr]
theorem till_done {listed : Array Bool} {a : Act} {w : World} (hr : Region.ready .any ops listed = []) (h : Q .normal a w) : wpTill P ops (Nrm Q) S z 0 listed a w := ⟨hr, h⟩
theorem wpIn_round_till (S : World → Prop) (z : Nat) {r n id : Nat} {a : Act} {w : World} (hm : P.follows .mixedOrders = true) (hd : noDefer ops.toList = true)
    (h : wpTill P ops (Nrm Q) S z ops.size (Array.replicate ops.size false) a w.drew) : (Code.region id ops true).wpIn (Fence.wide.inRound r) n P Q a w :=
  Code.wpIn_mono Nrm.imp (wpIn_round_any (Q := Nrm Q) hm Nrm.noOut hd (wpAny_of_till _ _ _ _ h))
end
end Go.Proofs.YtboomamnenonoaaDoor
