/-
  truth.put: THE WALK.
  truth.put: THE WALK, joined.
  truth.put: THE WALK, from its beginning.
-/
import Derived.Test.YtdjgndnllaingaaJ22
/-
  truth.put: THE WALK.
-/
namespace Go.Proofs.Ytdjgndnllaingaa.TrW
set_option linter.unusedVariables false
open Go.RowKit Go.Shelf LabM LbM LabW FrW TrM
/-- slices.Insert of one series, into a row of the call's own. -/
theorem insertR_any (B : Nat) (v : Value) (n : Nat) (F : List SerH) (X : SerH) (g i : Nat) (w : World) (hn : n ≤ 1000) (hl : F.length = n) (hi : i ≤ n) (hB : B ≤ w.heap.size) (hown : w.ownsRow B 48 3 v n (F.flatMap encR)) (hg : w.heap[g]? = some (.cells #[hdV X.1.1, hdV X.2.1.1, .int .i64 X.2.2] 48 (0, 0))) (hne : v.ownBlock ≠ some g) :
    Calls Try.prog 56 #[v, .int .i64 (i : Int), .slice (some ⟨g, 0, none⟩) 1 1] w fun e w' => ∃ v', e = .returned v' ∧ w'.ownsRow B 48 3 v' (n + 1) ((insF F i X).flatMap encR) ∧ w.grownBy w' v.ownBlock := by
  by_cases hin : i = n
  · subst hin; exact insert_end B v i F X g w hn hl hB hown hg hne
  · have hlt : i < n := by omega
    rcases hown.2 with ⟨rfl, h0⟩ | ⟨b, cap, cur, rfl, hBb, hb, hnc, hcm, hcs, hcur⟩
    · omega
    · have hbg : b ≠ g := fun e => hne (by rw [e]; rfl)
      by_cases hroom : n + 1 ≤ cap
      · refine (insert_shift B b n cap i cur F X g w hn hl hlt hroom hcm hb hcs hcur hg hbg).mono ?_
        rintro e w' ⟨cur', rfl, h1, h2, rfl⟩
        have hlI : ((insF F i X).flatMap encR).length = (n + 1) * 3 := by
          rw [flatMap_len encR_len]; unfold insF; simp; omega
        refine ⟨_, rfl, ⟨hlI, .inr ⟨b, cap, cur', rfl, hBb, setRow_heap _ _ _ _ _ _ hb, hroom, hcm, h1, h2⟩⟩, ⟨rfl, rfl, rfl, by simp, fun k hk hk2 => ?_⟩⟩
        exact setRow_other w.drew _ _ _ (fun e => hk2 (by rw [e]; rfl))
      · refine (insert_grow b n cap i cur F X g w hn hl hlt hnc (by omega) hb hcs hcur hg).mono ?_
        rintro e w' ⟨v', rfl, h1, h2⟩
        exact ⟨_, rfl, h1.mono hB, ⟨h2.os, h2.tape, h2.output, h2.size, fun k hk _ => h2.block k hk⟩⟩
theorem set_at (F : List SerH) (i : Nat) (x : SerH) (hi : i < F.length) : ((F.flatMap encR).set (i * 3) (hdV x.1.1)).length = F.length * 3 := by rw [List.length_set, flatMap_len encR_len]
/-- The cells of a row, with two of one series others. -/
theorem flat_set (F : List SerH) (i : Nat) (a : Option Addr × Nat × Nat) (S : List Sam) (T : Int) (hi : i < F.length) :
    ((F.flatMap encR).set (i * 3 + 1) (hdV a)).set (i * 3 + 2) (.int .i64 T) = (F.set i (F[i].1, (a, S), T)).flatMap encR := by
  induction F generalizing i with
  | nil => simp at hi
  | cons x F ih =>
    cases i with
    | zero => simp [encR]
    | succ i =>
      have := ih i (by simpa using hi)
      rw [List.flatMap_cons, List.set_cons_succ, List.flatMap_cons, List.getElem_cons_succ, ← this]
      rw [show (i + 1) * 3 + 1 = (encR x).length + (i * 3 + 1) by rw [encR_len]; omega, show (i + 1) * 3 + 2 = (encR x).length + (i * 3 + 2) by rw [encR_len]; omega]
      rw [List.set_append_right _ _ (by omega), List.set_append_right _ _ (by omega)]
      simp
/-- What stands ahead of the last part of put. -/
structure PT (w W : World) (gb m c : Nat) (f T V : Int) (F : List SerH) : Prop where
  below : Below w.heap.size w W
  box : W.heap[w.heap.size]? = some (.cells #[.slice (some ⟨gb, 0, none⟩) m c, .int .i64 f] 28 (0, 0))
  sam : W.heap[w.heap.size + 2]? = some (.cells #[.int .i64 T, .int .u64 V] 51 (0, 0))
  res : W.heap[w.heap.size + 3]? = some (.cells #[.slice none 0 0, .int .i64 0] 28 (0, 0))
  row : W.ownsRow (w.heap.size + 4) 48 3 (.slice (some ⟨gb, 0, none⟩) m c) m (F.flatMap encR)
  ok : ∀ x ∈ F, okR w x
  len : F.length = m
/-- .. and what stands behind it. -/
theorem PT.tail {w W : World} {gb m c : Nat} {f T V : Int} {F : List SerH} (h : PT w W gb m c f T V F) {i : Nat} (hi : i < F.length) {w2 : World} {v' : Value} {k : Nat} {S : List Sam} (hb : Below W.heap.size W w2)
    (hown : w2.ownsRow W.heap.size 51 2 v' k (S.flatMap encS)) (hS : ∀ y ∈ S, okS y) (hk : 0 < k) (hT : -9223372036854775808 ≤ T ∧ T ≤ 9223372036854775807) :
    ∃ (a : Option Addr × Nat × Nat) (w3 w4 w5 : World), v' = hdV a ∧ (w2.heap[w.heap.size + 2]? = some (.cells #[.int .i64 T, .int .u64 V] 51 (0, 0)) ∧ w3.heap[w.heap.size + 2]? = some (.cells #[.int .i64 T, .int .u64 V] 51 (0, 0))) ∧ (w2.cell? ⟨gb, i * 3 + 1, none⟩ = some (hdV F[i].2.1.1) ∧ w2.frozen? ⟨gb, i * 3 + 1, none⟩ = false) ∧ w2.setCell ⟨gb, i * 3 + 1, none⟩ (hdV a) = w3 ∧
      (w3.cell? ⟨w.heap.size + 2, 0, none⟩ = some (.int .i64 T) ∧ w3.cell? ⟨gb, i * 3 + 2, none⟩ = some (.int .i64 F[i].2.2) ∧ w3.frozen? ⟨gb, i * 3 + 2, none⟩ = false) ∧ w3.setCell ⟨gb, i * 3 + 2, none⟩ (.int .i64 T) = w4 ∧
      (w4.cell? ⟨w.heap.size, 0, none⟩ = some (.slice (some ⟨gb, 0, none⟩) m c) ∧ w4.cell? ⟨w.heap.size, 1, none⟩ = some (.int .i64 f) ∧ w4.heap[w.heap.size + 3]? = some (.cells #[.slice none 0 0, .int .i64 0] 28 (0, 0))) ∧
      w4.setRow (w.heap.size + 3) #[.slice (some ⟨gb, 0, none⟩) m c, .int .i64 f] = w5 ∧ Below w.heap.size w w5 ∧ Sers w5 (some ⟨gb, 0, none⟩) m c (F.set i (F[i].1, (a, S), T)) := by
  have hfl : (F.flatMap encR).length = F.length * 3 := flatMap_len encR_len F
  have hlen := h.len
  obtain ⟨g2, cap2, hv', hgB, hglt⟩ := hown.form hk
  subst hv'
  have hgb : w.heap.size + 4 ≤ gb ∧ gb < W.heap.size := own_lt' h.row gb rfl
  have hnew : W.heap.size ≤ g2 := hgB
  have row2 := own_same (w' := w2) h.row (fun j hj => hb.block j (own_lt' h.row j hj).2)
  have hc1 : w2.cell? ⟨gb, i * 3 + 1, none⟩ = some (hdV F[i].2.1.1) := by
    rw [row2.cellAt (i * 3 + 1) (by omega), flatMap_at encR_len F i _ (List.getElem?_eq_getElem hi) 1 (by omega)]; rfl
  have hf1 := row2.frozenAt (i * 3 + 1)
  have hbox2 := (hb.block _ (by omega)).trans h.box
  have hsam2 := (hb.block _ (by omega)).trans h.sam
  have hres2 := (hb.block _ (by omega)).trans h.res
  have hown2 := hown
  obtain ⟨w3, hw3⟩ : ∃ w3, w2.setCell ⟨gb, i * 3 + 1, none⟩ (hdV (some ⟨g2, 0, none⟩, k, cap2)) = w3 := ⟨_, rfl⟩
  have ho3 : ∀ j, j ≠ gb → w3.heap[j]? = w2.heap[j]? := fun j hj => by rw [← hw3]; exact heap_setCell_other _ _ _ _ hj
  have row3 := (row2.stored (i * 3 + 1) (hdV (some ⟨g2, 0, none⟩, k, cap2))).1
  rw [hw3] at row3
  have hsz3 : w3.heap.size = w2.heap.size := by rw [← hw3]; simp
  have hcT : w3.cell? ⟨w.heap.size + 2, 0, none⟩ = some (.int .i64 T) := by rw [cell_of_row _ _ _ _ _ _ ((ho3 _ (by omega)).trans hsam2)]; rfl
  have hc2 : w3.cell? ⟨gb, i * 3 + 2, none⟩ = some (.int .i64 F[i].2.2) := by
    rw [row3.cellAt (i * 3 + 2) (by omega), List.getElem?_set_ne (by omega), flatMap_at encR_len F i _ (List.getElem?_eq_getElem hi) 2 (by omega)]; rfl
  have hf2 := row3.frozenAt (i * 3 + 2)
  obtain ⟨w4, hw4⟩ : ∃ w4, w3.setCell ⟨gb, i * 3 + 2, none⟩ (.int .i64 T) = w4 := ⟨_, rfl⟩
  have ho4 : ∀ j, j ≠ gb → w4.heap[j]? = w2.heap[j]? := fun j hj => by rw [← hw4]; exact (heap_setCell_other _ _ _ _ hj).trans (ho3 j hj)
  have row4 := (row3.stored (i * 3 + 2) (.int .i64 T)).1
  rw [hw4, flat_set F i (some ⟨g2, 0, none⟩, k, cap2) S T hi] at row4
  have hsz4 : w4.heap.size = w2.heap.size := by rw [← hw4, ← hsz3]; simp
  have hbox4 := (ho4 _ (by omega)).trans hbox2
  have hres4 := (ho4 _ (by omega)).trans hres2
  obtain ⟨w5, hw5⟩ : ∃ w5, w4.setRow (w.heap.size + 3) #[.slice (some ⟨gb, 0, none⟩) m c, .int .i64 f] = w5 := ⟨_, rfl⟩
  have ho5 : ∀ j, j ≠ w.heap.size + 3 → w5.heap[j]? = w4.heap[j]? := fun j hj => by rw [← hw5]; exact setRow_other _ _ _ _ hj
  have hsz5 : w5.heap.size = w2.heap.size := by rw [← hw5, ← hsz4]; simp
  have hb2 : Below w.heap.size w w2 := h.below.trans (hb.mono h.below.size)
  have hb3 : Below w.heap.size w w3 := by rw [← hw3]; exact hb2.setCell (by show w.heap.size ≤ gb; omega) _
  have hb4 : Below w.heap.size w w4 := by rw [← hw4]; exact hb3.setCell (by show w.heap.size ≤ gb; omega) _
  have hb5 : Below w.heap.size w w5 := by rw [← hw5]; exact below_setRow hb4 (by omega) _
  have row5 := own_same (w' := w5) row4 (fun j hj => ho5 j (by have hj2 : gb = j := Option.some.inj hj; omega))
  have hown5 : w5.ownsRow W.heap.size 51 2 (.slice (some ⟨g2, 0, none⟩) k cap2) k (S.flatMap encS) := own_same hown2 (fun j hj => by
    have hj2 : g2 = j := Option.some.inj hj
    subst hj2
    exact (ho5 _ (by omega)).trans (ho4 _ (by omega)))
  refine ⟨(some ⟨g2, 0, none⟩, k, cap2), w3, w4, w5, rfl, ⟨hsam2, (ho3 _ (by omega)).trans hsam2⟩, ⟨hc1, hf1⟩, hw3, ⟨hcT, hc2, hf2⟩, hw4, ⟨by rw [cell_of_row _ _ _ _ _ _ hbox4]; rfl, by rw [cell_of_row _ _ _ _ _ _ hbox4]; rfl, hres4⟩, hw5, hb5, ?_⟩
  obtain ⟨A', c', hv, hS'⟩ := Sers.of_own row5 (by rw [List.length_set]; exact hlen.symm) (fun x hx => by
    rcases List.mem_or_eq_of_mem_set hx with hx | rfl
    · exact (h.ok x hx).later hb5
    · obtain ⟨A6, c6, hv6, -, hc6⟩ := Comes.of_own hown5 (fun _ => rfl) (by decide) hS
      injection hv6 with e1 e2 e3
      subst e1 e3
      exact ⟨((h.ok _ (List.getElem_mem hi)).later hb5).lab, hc6, hT⟩)
  injection hv with e1 e2 e3
  subst e1 e3
  exact hS'
/-- Samples and one more: what append makes of them. -/
theorem append_smp (W : World) (v : Value) (n : Nat) (S : List Sam) (B : Nat) (x : Sam) (g : Nat) (hB : B ≤ W.heap.size) (hn : n ≤ 1000) (hown : W.ownsRow B 51 2 v n (S.flatMap encS)) (hg : W.heap[g]? = some (.cells #[.int .i64 x.1, .int .u64 x.2] 51 (0, 0))) :
    ∃ v' W2, (∀ ty, (Builtin.append_ #[46, 46] ty #[v, .slice (some ⟨g, 0, none⟩) 1 1]).run Try.prog W = .ok v' W2) ∧ W2.ownsRow B 51 2 v' (n + 1) ((S ++ [x]).flatMap encS) ∧ Below B W W2 := by
  obtain ⟨i0, hi, hz0, hz1, hz2⟩ := info_parts elemS
  have hl : (S.flatMap encS).length = n * 2 := hown.1
  have key : ∀ ty, ∃ v' W2, (Builtin.append_ #[46, 46] ty #[v, .slice (some ⟨g, 0, none⟩) 1 1]).run Try.prog W = .ok v' W2 ∧ W2.ownsRow B 51 2 v' (n + 1) (S.flatMap encS ++ encS x) ∧ W.grownBy W2 v.ownBlock := fun ty => by
    obtain ⟨v', W2, hr, h2, h3, -, -⟩ := run_append_own_at (P := Try.prog) W B 46 ty 51 i0 (.agg #[.int .i64 0, .int .u64 0]) 2 16 Try.underlying46 hi hz0 hz1 hz2 rfl (by decide) v n (S.flatMap encS) hown ⟨g, 0, none⟩ 1 1 (encS x) rfl (fun j u hj => by
      rw [Addr.add_lit, cell_of_row _ _ _ _ _ _ hg, ← Array.getElem?_toList, Nat.zero_add]
      exact hj) (encS_one x) (by unfold maxLen; omega) (by omega) hB
    exact ⟨v', W2, hr, h2, h3⟩
  obtain ⟨v', W2, hr, h2, h3⟩ := key 46
  refine ⟨v', W2, fun ty => ?_, ?_, ?_⟩
  · exact hr
  · rw [List.flatMap_append, List.flatMap_singleton]; exact h2
  · exact (Below.refl _ _).grown h3 hB (fun k hk => (hown.lt k hk).1)
end Go.Proofs.Ytdjgndnllaingaa.TrW
/-
  truth.put: THE WALK, joined.
-/
namespace Go.Proofs.Ytdjgndnllaingaa.TrW
set_option linter.unusedVariables false
open Go.RowKit Go.Shelf LabM LbM LabW FrW TrM
set_option maxHeartbeats 1000000 in
theorem put1_any (x : SerH) (g : Nat) (A2 : Option Addr) (n2 c2 : Nat) (l : List Lab) (W : World) (hg : BoxL W g A2 n2 c2) (hx : okR W x) (hl : Comes W 2 encL okL A2 n2 c2 l) (hf : fewB x.1.2 = true) (hf2 : fewB l = true) :
    Calls Try.prog 55 (#[serV x] ++ #[.pointer (some ⟨g, 0, none⟩)]) W fun e W' => e = .returned (.bool (!lessL x.1.2 l)) ∧ Below W.heap.size W W' := by
  obtain ⟨⟨⟨A1, n1, c1⟩, L⟩, ⟨⟨A3, n3, c3⟩, S⟩, T⟩ := x
  have K := Lib.hid (fun W' (h : Below W.heap.size W W') => lless_any A1 n1 c1 L A2 n2 c2 l W' (hx.lab.later h) (hl.later h) hf hf2)
  have hg2 : (W.alloc (.cells #[.slice A1 n1 c1, .slice A3 n3 c3, .int .i64 T] 48)).cell? ⟨g, 0, none⟩ = some (.slice A2 n2 c2) := hg.later ((Below.refl _ _).alloc (Nat.le_refl _) _)
  have HB0 := Lib.hid (show Below W.heap.size W (W.alloc (.cells #[.slice A1 n1 c1, .slice A3 n3 c3, .int .i64 T] 48)) from (Below.refl _ _).alloc (Nat.le_refl _) _)
  clear hg hx hl
  show Calls Try.prog 55 #[.agg #[.slice A1 n1 c1, .slice A3 n3 c3, .int .i64 T], .pointer (some ⟨g, 0, none⟩)] W _
  go_enter Try.func55, Try.ntmps55
  go_wp2_with fail
  refine (K.out _ HB0.out).mono ?_
  rintro e w1 ⟨rfl, hb1⟩
  have HB := Lib.hid (later HB0.out hb1)
  clear hb1
  go_wp2_with fail
  go_ret
  exact ⟨rfl, HB.out⟩
theorem step_append_runI {P : Program} {ops : Array Oper} {o : Oper} {a : Act} {w : World} {K : Act → World → Prop} {Q : Exit → Act → World → Prop} {E : Prop}
    (hg : o.guard = none) (d x : Operand) (dT sT : TypeId) (hop : o.op = Op.call { callee := Callee.builtin Builtin.append, args := #[d, x], argTypes := #[dT, sT] })
    (v u : Value) (hd : a.eval d = v) (hx : a.eval x = u) {v' : Value} {w' : World} (hr : (Builtin.append_ #[dT, sT] o.type #[v, u]).run P w = .ok v' w') (hK : K (a.put o.dst v') w') :
    if Region.wanted o (yielded ops a.tmps) = true then Oper.wp P o a w K Q else E := by
  have hw : Region.wanted o (yielded ops a.tmps) = true := by simp [Region.wanted, hg]
  rw [if_pos hw]
  unfold Oper.wp
  simp [execOp, hop, resolve, invoke, builtin, hd, hx, hr, Result.andThen]
  exact hK
/-- What stands behind the last part, once a row of samples is appended to. -/
def TailP (w W2 : World) (gb i m c : Nat) (f T V : Int) (F : List SerH) (S : List Sam) (a1 : Option Addr) (a2 a3 : Nat) (w3 w4 w5 : World) (y1 : Value) (y2 : Int) (x : Option Addr × Nat × Nat → SerH) : Prop :=
  (W2.heap[w.heap.size + 2]? = some (.cells #[.int .i64 T, .int .u64 V] 51 (0, 0)) ∧ w3.heap[w.heap.size + 2]? = some (.cells #[.int .i64 T, .int .u64 V] 51 (0, 0))) ∧ (W2.cell? ⟨gb, i * 3 + 1, none⟩ = some y1 ∧ W2.frozen? ⟨gb, i * 3 + 1, none⟩ = false) ∧ W2.setCell ⟨gb, i * 3 + 1, none⟩ (.slice a1 a2 a3) = w3 ∧
      (w3.cell? ⟨w.heap.size + 2, 0, none⟩ = some (.int .i64 T) ∧ w3.cell? ⟨gb, i * 3 + 2, none⟩ = some (.int .i64 y2) ∧ w3.frozen? ⟨gb, i * 3 + 2, none⟩ = false) ∧ w3.setCell ⟨gb, i * 3 + 2, none⟩ (.int .i64 T) = w4 ∧
      (w4.cell? ⟨w.heap.size, 0, none⟩ = some (.slice (some ⟨gb, 0, none⟩) m c) ∧ w4.cell? ⟨w.heap.size, 1, none⟩ = some (.int .i64 f) ∧ w4.heap[w.heap.size + 3]? = some (.cells #[.slice none 0 0, .int .i64 0] 28 (0, 0))) ∧
      w4.setRow (w.heap.size + 3) #[.slice (some ⟨gb, 0, none⟩) m c, .int .i64 f] = w5 ∧ Below w.heap.size w w5 ∧ Sers w5 (some ⟨gb, 0, none⟩) m c (F.set i (x (a1, a2, a3)))
theorem tail_a {w W : World} {gb m c : Nat} {f T V : Int} {F : List SerH} (h : PT w W gb m c f T V F) {i : Nat} (hi : i < F.length) (hT : -9223372036854775808 ≤ T ∧ T ≤ 9223372036854775807) (hV : 0 ≤ V ∧ V < 18446744073709551616) (hS : F[i].2.1.2.length ≤ 1000) :
    Calls Try.prog 57 #[hdV F[i].2.1.1] W.drew fun e w1 => ∃ v a1 a2 a3 w1x W2 w3 w4 w5, e = .returned v ∧ w1.heap[w.heap.size + 2]? = some (.cells #[.int .i64 T, .int .u64 V] 51 (0, 0)) ∧ (w1x.heap[w.heap.size + 2]? = some (.cells #[.int .i64 T, .int .u64 V] 51 (0, 0))) ∧ w1.alloc (.cells #[.int .i64 T, .int .u64 V] 51 (0, 0)) = w1x ∧
      (∀ ty, (Builtin.append_ #[46, 46] ty #[v, .slice (some ⟨w1.heap.size, 0, none⟩) 1 1]).run Try.prog w1x = .ok (.slice a1 a2 a3) W2) ∧ TailP w W2 gb i m c f T V F (F[i].2.1.2 ++ [(T, V)]) a1 a2 a3 w3 w4 w5 (hdV F[i].2.1.1) F[i].2.2 (fun a => (F[i].1, (a, F[i].2.1.2 ++ [(T, V)]), T)) := by
  have hok := h.ok _ (List.getElem_mem hi)
  have hln := hok.sam.len
  have hbd : Below w.heap.size w W.drew := ⟨h.below.os, h.below.tape, h.below.output, h.below.size, h.below.block⟩
  refine (cloneS_any F[i].2.1.1.1 F[i].2.1.1.2.1 F[i].2.1.1.2.2 F[i].2.1.2 W.drew (hok.sam.later hbd) (by omega)).mono ?_
  rintro e w1 ⟨v, rfl, hown, hb⟩
  have hbW : Below W.heap.size W w1 := ⟨hb.os, hb.tape, hb.output, hb.size, hb.block⟩
  have hbx : Below W.heap.size W (w1.alloc (.cells #[.int .i64 T, .int .u64 V] 51 (0, 0))) := hbW.alloc hbW.size _
  obtain ⟨v', W2, hr, h2, h3⟩ := append_smp (w1.alloc (.cells #[.int .i64 T, .int .u64 V] 51 (0, 0))) v F[i].2.1.1.2.1 F[i].2.1.2 W.heap.size (T, V) w1.heap.size hbx.size (by omega) (hown.alloc _) (heap_alloc_new w1 _)
  obtain ⟨⟨a1, a2, a3⟩, w3, w4, w5, rfl, t0, t1, t2, t3, t4, t5, t6, t7, t8⟩ := h.tail hi (hbx.trans h3) h2 (fun y hy => by
    rcases List.mem_append.1 hy with hy | hy
    · exact hok.sam.ok y hy
    · rw [List.mem_singleton.1 hy]; exact ⟨hT.1, hT.2, hV.1, hV.2⟩) (by omega) hT
  have hsm := (hbW.block _ (Array.getElem?_eq_some_iff.1 h.sam).1).trans h.sam
  exact ⟨v, a1, a2, a3, _, W2, w3, w4, w5, rfl, hsm, (Below.heap_alloc _ _ _ (Array.getElem?_eq_some_iff.1 hsm).1).trans hsm, rfl, hr, t0, t1, t2, t3, t4, t5, t6, t7, t8⟩
theorem tail_b {w W : World} {gb m c : Nat} {f T V : Int} {F : List SerH} (h : PT w W gb m c f T V F) {i : Nat} (hi : i < F.length) (hT : -9223372036854775808 ≤ T ∧ T ≤ 9223372036854775807) (hV : 0 ≤ V ∧ V < 18446744073709551616) (hS : F[i].2.1.2.length ≤ 1000) :
    Calls Try.prog 57 #[hdV F[i].2.1.1] (W.alloc (.cells #[.int .i64 T, .int .u64 V] 51 (0, 0))).drew fun e w1 => ∃ v a1 a2 a3 W2 w3 w4 w5, e = .returned v ∧ w1.heap[w.heap.size + 2]? = some (.cells #[.int .i64 T, .int .u64 V] 51 (0, 0)) ∧
      (∀ ty, (Builtin.append_ #[46, 46] ty #[v, .slice (some ⟨W.heap.size, 0, none⟩) 1 1]).run Try.prog w1 = .ok (.slice a1 a2 a3) W2) ∧ TailP w W2 gb i m c f T V F (F[i].2.1.2 ++ [(T, V)]) a1 a2 a3 w3 w4 w5 (hdV F[i].2.1.1) F[i].2.2 (fun a => (F[i].1, (a, F[i].2.1.2 ++ [(T, V)]), T)) := by
  have hok := h.ok _ (List.getElem_mem hi)
  have hln := hok.sam.len
  have hbA : Below W.heap.size W (W.alloc (.cells #[.int .i64 T, .int .u64 V] 51 (0, 0))).drew := by
    have := (Below.refl W.heap.size W).alloc (Nat.le_refl _) (.cells #[.int .i64 T, .int .u64 V] 51 (0, 0))
    exact ⟨this.os, this.tape, this.output, this.size, this.block⟩
  have hbd := h.below.trans (hbA.mono h.below.size)
  refine (cloneS_any F[i].2.1.1.1 F[i].2.1.1.2.1 F[i].2.1.1.2.2 F[i].2.1.2 (W.alloc (.cells #[.int .i64 T, .int .u64 V] 51 (0, 0))).drew (hok.sam.later hbd) (by omega)).mono ?_
  rintro e w1 ⟨v, rfl, hown, hb⟩
  have hbW : Below W.heap.size W w1 := hbA.trans (hb.mono hbA.size)
  have hg : w1.heap[W.heap.size]? = some (.cells #[.int .i64 T, .int .u64 V] 51 (0, 0)) := (hb.block _ (by show W.heap.size < (W.alloc _).heap.size; simp)).trans (heap_alloc_new W _)
  have hzz : W.heap.size + 1 ≤ (W.alloc (.cells #[.int .i64 T, .int .u64 V] 51 (0, 0))).drew.heap.size := by show _ ≤ (W.alloc _).heap.size; simp
  obtain ⟨v', W2, hr, h2, h3⟩ := append_smp w1 v F[i].2.1.1.2.1 F[i].2.1.2 W.heap.size (T, V) W.heap.size hbW.size (by omega) (hown.mono (by omega)) hg
  obtain ⟨⟨a1, a2, a3⟩, w3, w4, w5, rfl, t0, t1, t2, t3, t4, t5, t6, t7, t8⟩ := h.tail hi (hbW.trans h3) h2 (fun y hy => by
    rcases List.mem_append.1 hy with hy | hy
    · exact hok.sam.ok y hy
    · rw [List.mem_singleton.1 hy]; exact ⟨hT.1, hT.2, hV.1, hV.2⟩) (by omega) hT
  have hsm := (hbW.block _ (Array.getElem?_eq_some_iff.1 h.sam).1).trans h.sam
  exact ⟨v, a1, a2, a3, W2, w3, w4, w5, rfl, hsm, hr, t0, t1, t2, t3, t4, t5, t6, t7, t8⟩
end Go.Proofs.Ytdjgndnllaingaa.TrW
/-
  truth.put: THE WALK, from its beginning.
-/
namespace Go.Proofs.Ytdjgndnllaingaa.TrW
set_option linter.unusedVariables false
open Go.RowKit Go.Shelf LabM LbM LabW FrW TrM
theorem place_fst (hs : List SerH) (l : List Lab) : (fstI (fun x => !lessL x.1.2 l) hs = -1 ∧ place (hs.map absR) l = hs.length) ∨ ∃ p : Nat, fstI (fun x => !lessL x.1.2 l) hs = (p : Int) ∧ place (hs.map absR) l = p ∧ p < hs.length := by
  unfold fstI place
  rw [List.findIdx?_map, List.length_map]
  show _ ∨ _
  have e : ((fun y : Ser => !lessL y.1 l) ∘ absR) = (fun x : SerH => !lessL x.1.2 l) := rfl
  rw [e]
  cases h : hs.findIdx? (fun x => !lessL x.1.2 l) with
  | none => exact .inl ⟨rfl, rfl⟩
  | some i =>
    rw [List.findIdx?_eq_some_iff_getElem] at h
    exact .inr ⟨i, rfl, rfl, h.1⟩
theorem fin_some (hs : List SerH) (f : Int) (l : List Lab) (x : Smp) (i : Nat) (hi : i < hs.length) (hf : fnd (hs.map absR) l = some i) (a : Option Addr × Nat × Nat) :
    (hs.set i (hs[i].1, (a, hs[i].2.1.2 ++ [x]), x.1)).map absR = (putM (hs.map absR, f) l x).1 := by
  unfold putM
  rw [hf]
  simp only []
  rw [List.map_set, atS_lt (by rw [List.length_map]; exact hi), List.getElem_map]
  rfl
theorem fin_none (hs : List SerH) (f : Int) (l : List Lab) (x : Smp) (p : Nat) (hp : p ≤ hs.length) (A2 : Option Addr) (n2 c2 : Nat) (hf : fnd (hs.map absR) l = none) (he : place (hs.map absR) l = p) (a : Option Addr × Nat × Nat) :
    ((insF hs p (((A2, n2, c2), l), ((none, 0, 0), []), 0)).set p (((A2, n2, c2), l), (a, [x]), x.1)).map absR = (putM (hs.map absR, f) l x).1 := by
  unfold putM
  rw [hf]
  simp only []
  rw [he]
  unfold insF
  have e : (hs.take p).length = p := by rw [List.length_take]; omega
  rw [List.set_append_right _ _ (by omega), e, Nat.sub_self, List.set_cons_zero, List.map_append, List.map_cons, List.map_take, List.map_drop]
  rfl
theorem insF_at (hs : List SerH) (p : Nat) (hp : p ≤ hs.length) (X : SerH) : ∃ h : p < (insF hs p X).length, (insF hs p X)[p] = X := by
  unfold insF
  have e : (hs.take p).length = p := by rw [List.length_take]; omega
  refine ⟨by rw [List.length_append, e, List.length_cons]; omega, ?_⟩
  rw [List.getElem_append_right (by omega)]
  simp [e]
end Go.Proofs.Ytdjgndnllaingaa.TrW
