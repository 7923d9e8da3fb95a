/-
  append OF A WHOLE SLICE THAT LIES THERE (nil too), ONTO A ROW OF THE CALL'S OWN.
-/
import Derived.Test.YtgnifdkoaajboaaMem
import Derived.Maps.AppendAt
namespace Go.Proofs.Ytgnifdkoaajboaa
open Go.RowKit
theorem run_append_none {P : Program} (w : World) (t ty e : TypeId) (i : TypeInfo) (ht : P.underlying t = some (.slice e)) (hi : P.info? e = some i) (b : Option Addr) (n cap c : Nat) (hnc : n ≤ cap) :
    (Builtin.append_ #[t, t] ty #[.slice b n cap, .slice none 0 c]).run P w = .ok (.slice b n cap) w := by
  cases b with
  | none => simp [Builtin.append_, run_underlying ht, sizeOf, typeInfo, hi, Builtin.lenOf, Builtin.firstCells, hnc]
  | some a => simp [Builtin.append_, run_underlying ht, sizeOf, typeInfo, hi, Builtin.lenOf, Builtin.firstCells, hnc, storeCells]
theorem Comes.news {α : Type} {w : World} {size : Nat} {encA : α → List Value} {okA : α → Prop} {ad : Addr} {m c : Nat} {l : List α} (h : Comes w size encA okA (some ad) m c l) (hs : ∀ x, (encA x).length = size) (h0 : 0 < size) : ∀ j u, (l.flatMap encA)[j]? = some u → w.cell? (ad.add j) = some u := by
  intro j u hj
  have hjl : j < l.length * size := by
    have := (List.getElem?_eq_some_iff.1 hj).1
    rwa [flatMap_len hs] at this
  have hi : j / size < l.length := (Nat.div_lt_iff_lt_mul h0).2 hjl
  obtain ⟨b, o, hA, -, hc⟩ := h.lies (j / size) _ (List.getElem?_eq_getElem hi)
  have hA' : ad = ⟨b, o, none⟩ := Option.some.inj hA
  have hr : j % size < size := Nat.mod_lt _ h0
  have hd : j / size * size + j % size = j := by rw [Nat.mul_comm]; exact Nat.div_add_mod j size
  have hf := flatMap_at hs l (j / size) _ (List.getElem?_eq_getElem hi) (j % size) hr
  rw [hd, hj] at hf
  have hcc := hc (j % size) u hf.symm
  rw [hA', Addr.add_lit, ← hcc]
  congr 2
  omega
theorem wpList_append_comes {P : Program} {α : Type} {ops : Array Oper} {rest : List Oper} {o : Oper} {a : Act} {Q : Exit → Act → World → Prop} (hgd : o.guard = none) (s x : Operand) (t : TypeId)
    (ho : o.op = .call { callee := .builtin .append, args := #[s, x], argTypes := #[t, t] })
    (base : Nat) (e : TypeId) (z : Value) (size bytes : Nat) (ht : P.underlying t = some (.slice e)) (he : Elem P e z size bytes) (hzs : z.cells.size = size) (hsz : 0 < size)
    {v : Value} {n : Nat} {xs : List Value} (w : World) (hown : w.ownsRow base e size v n xs) (hs : a.eval s = v)
    {encA : α → List Value} {okA : α → Prop} {A : Option Addr} {m c : Nat} {l : List α} (hx : a.eval x = .slice A m c) (hl : Comes w size encA okA A m c l)
    (hes : ∀ x, (encA x).length = size) (h1 : ∀ x, ∀ u ∈ encA x, u.oneCell' = true)
    (hbytes : (n + m) * bytes ≤ 140737488355328) (h63 : n + m ≤ 140737488355328) (hbase : base ≤ w.heap.size)
    (h : ∀ v' w', w'.ownsRow base e size v' (n + m) (xs ++ l.flatMap encA) → Below base w w' → wpList P ops Q rest (a.put o.dst v') w') :
    wpList P ops Q (o :: rest) a w := by
  obtain ⟨i0, hi, hz0, hz1, hz2⟩ := info_parts he
  cases A with
  | none =>
    have hl0 : l = [] := by
      cases l with
      | nil => rfl
      | cons y l => obtain ⟨b, o, hA, _⟩ := hl.lies 0 y rfl; cases hA
    subst hl0
    have hm : m = 0 := hl.len.symm
    subst hm
    refine wpList_plain hgd fun _ hK => ?_
    unfold Oper.wp execOp
    have hrun : (Builtin.append_ #[t, t] o.type #[v, .slice none 0 c]).run P w = .ok v w := by
      rcases hown.2 with ⟨rfl, rfl⟩ | ⟨g, cap, cur, rfl, _, _, hnc, _⟩
      · exact run_append_none w t o.type e i0 ht hi none 0 0 c (Nat.le_refl _)
      · exact run_append_none w t o.type e i0 ht hi (some ⟨g, 0, none⟩) n cap c hnc
    simp only [ho, resolve, invoke, builtin, Sem.run_bind, Sem.run_pure, Result.andThen_ok, List.map_toArray, List.map_cons, List.map_nil, hs, hx, hrun]
    refine hK _ _ (h v w ?_ (Below.refl _ _))
    simpa using hown
  | some ad =>
    refine wpList_append_own (w := w) hgd s x t ho base e i0 z size bytes ht hi hz0 hz1 hz2 hzs hsz v n xs hs hown ad m c (l.flatMap encA) hx (by rw [flatMap_len hes, hl.len]) (hl.news hes hsz) ?_ ?_ hbytes hbase ?_
    · intro u hu
      obtain ⟨y, _, hy⟩ := List.mem_flatMap.1 hu
      exact h1 y u hy
    · unfold maxLen; omega
    · intro v' w' hown' hg _
      refine h v' w' hown' ?_
      refine (Below.refl base w).grown hg hbase ?_
      intro k hk
      rcases hown.2 with ⟨hv, _⟩ | ⟨g, cap, cur, hv, hgb, _⟩
      · rw [hv] at hk; cases hk
      · rw [hv] at hk; cases hk; exact hgb
end Go.Proofs.Ytgnifdkoaajboaa
