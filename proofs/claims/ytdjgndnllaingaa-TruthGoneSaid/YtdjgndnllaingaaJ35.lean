/-
  truth.delete: ITS TWO STEPS IN MEMORY.
  truth.delete: PLAIN LAW OF ITS LOOP.
  truth.delete: ITS END.
-/
import Derived.Test.YtdjgndnllaingaaJ34
/-
  truth.delete: ITS TWO STEPS IN MEMORY.
-/
namespace Go.Proofs.Ytdjgndnllaingaa.TrW
set_option linter.unusedVariables false
open Go.RowKit Go.Shelf LabM LbM LabW FrW TrM
section
variable {w W : World} {d : Nat} {gen : Int} {o : OpH} {f : Int} {gb n c : Nat} {a : Option Addr × Nat × Nat} {G : List SerH} {RS : List RecH}
theorem DelW.stored (h : DelW w W d gen o f (some ⟨gb, 0, none⟩) n c a G RS) (hdw : d < w.heap.size) {k : Nat} (hk : k < G.length) (b : Option Addr × Nat × Nat) {S : List Sam} (hown : W.ownsRow (w.heap.size + 1) 51 2 (hdV b) b.2.1 (S.flatMap encS)) (hS : ∀ y ∈ S, okS y) :
    ∃ w3, W.setCell ⟨gb, k * 3 + 1, none⟩ (hdV b) = w3 ∧ ((∃ v, W.cell? ⟨gb, k * 3 + 1, none⟩ = some v) ∧ W.frozen? ⟨gb, k * 3 + 1, none⟩ = false) ∧ DelW w w3 d gen o f (some ⟨gb, 0, none⟩) n c a (G.set k (G[k].1, (b, S), G[k].2.2)) RS := by
  have hfl : (G.flatMap encR).length = G.length * 3 := flatMap_len encR_len G
  have hgb := own_lt' h.row gb rfl
  have hl3 := h.row.1
  obtain ⟨w3, hw3⟩ : ∃ w3, W.setCell ⟨gb, k * 3 + 1, none⟩ (hdV b) = w3 := ⟨_, rfl⟩
  have ho : ∀ j, j ≠ gb → w3.heap[j]? = W.heap[j]? := fun j hj => by rw [← hw3]; exact heap_setCell_other _ _ _ _ hj
  have hc1 : W.cell? ⟨gb, k * 3 + 1, none⟩ = some (hdV G[k].2.1.1) := by
    rw [h.row.cellAt (k * 3 + 1) (by omega), flatMap_at encR_len G k _ (List.getElem?_eq_getElem hk) 1 (by omega)]; rfl
  have row3 := (h.row.stored (k * 3 + 1) (hdV b)).1
  rw [hw3, flat_set1 G k b S hk] at row3
  have hz : w3.heap.size = W.heap.size := by rw [← hw3]; simp
  have hsm : ∀ {v : Value} {m : Nat} {xs : List Value}, W.ownsRow (w.heap.size + 1) 51 2 v m xs → w3.ownsRow (w.heap.size + 1) 51 2 v m xs := fun h2 => own_same h2 (fun j hj => ho j (fun e => own_type h.row h2 (by decide) gb rfl (by rw [← e]; exact hj)))
  refine ⟨w3, hw3, ⟨⟨_, hc1⟩, h.row.frozenAt (k * 3 + 1)⟩, ⟨⟨?_, ?_, ?_, by rw [hz]; exact h.fr.size, fun j hj hne => (ho j (by omega)).trans (h.fr.block j hj hne)⟩, (ho d (by omega)).trans h.dat, row3, ?_, ?_, h.okRec, (ho _ (by omega)).trans h.ans⟩⟩
  · rw [← hw3]; exact h.fr.os
  · rw [← hw3]; exact h.fr.tape
  · rw [← hw3]; exact h.fr.output
  · exact own_same h.recs (fun j hj => ho j (fun e => own_type h.row h.recs (by decide) gb rfl (by rw [← e]; exact hj)))
  · intro x hx
    rcases List.mem_or_eq_of_mem_set hx with hx | rfl
    · have h1 := h.okG x hx
      refine ⟨h1.lab, ?_, h1.last⟩
      rcases h1.sam with h2 | ⟨h2, h3⟩
      · exact .inl h2
      · exact .inr ⟨hsm h2, h3⟩
    · have h1 := h.okG _ (List.getElem_mem hk)
      exact ⟨h1.lab, .inr ⟨hsm hown, hS⟩, h1.last⟩
/-- .. and a change more. -/
theorem DelW.more {A : Option Addr} (h : DelW w W d gen o f A n c a G RS) (hdw : d < w.heap.size) (hn : RS.length ≤ 1000) {r : RecH} (hr : okC w r) :
    ∃ wx W2 w5 a1 a2 a3, W.alloc (.cells (recRow r) 64 (0, 0)) = wx ∧ (∀ ty, (Builtin.append_ #[32, 32] ty #[hdV a, .slice (some ⟨W.heap.size, 0, none⟩) 1 1]).run Try.prog wx.drew = .ok (.slice a1 a2 a3) W2) ∧ W2.setCell ⟨d, 10, none⟩ (.slice a1 a2 a3) = w5 ∧
      (wx.cell? ⟨d, 10, none⟩ = some (hdV a)) ∧ ((∃ v, W2.cell? ⟨d, 10, none⟩ = some v) ∧ W2.frozen? ⟨d, 10, none⟩ = false) ∧ DAt wx d A n c f gen o (hdV a) ∧ DAt W2 d A n c f gen o (hdV a) ∧ Below W.heap.size W wx ∧ DelW w w5 d gen o f A n c (a1, a2, a3) G (RS ++ [r]) ∧ ∀ j, j < W.heap.size → (hdV a).ownBlock ≠ some j → W2.heap[j]? = W.heap[j]? ∧ (j ≠ d → w5.heap[j]? = W.heap[j]?) := by
  obtain ⟨wx, hx⟩ : ∃ wx, W.alloc (.cells (recRow r) 64 (0, 0)) = wx := ⟨_, rfl⟩
  have hrx : wx.heap[W.heap.size]? = some (.cells (recRow r) 64 (0, 0)) := by rw [← hx]; exact heap_alloc_new W _
  have hbx : Below W.heap.size W wx := by rw [← hx]; exact (Below.refl _ _).alloc (Nat.le_refl _) _
  have hX := h.later hbx
  have hfs := h.fr.size
  have hans := (Array.getElem?_eq_some_iff.1 h.ans).1
  obtain ⟨⟨a1, a2, a3⟩, W2, hrun, hown2, hg⟩ := append_rec wx.drew (hdV a) RS.length RS (w.heap.size + 1) r W.heap.size (by have := hbx.size; show _ ≤ wx.heap.size; omega) hn hX.recs hrx
  have hkp : ∀ j, j < wx.heap.size → (hdV a).ownBlock ≠ some j → W2.heap[j]? = wx.heap[j]? := fun j hj hne => hg.block j hj (fun e => hne e.symm)
  have hlow : ∀ j, j < w.heap.size + 1 → (hdV a).ownBlock ≠ some j := fun j hj e => by have := (own_lt' hX.recs j e).1; omega
  have hzx := hbx.size
  have hd2 : DAt W2 d A n c f gen o (hdV a) := (hkp d (by omega) (hlow d (by omega))).trans hX.dat
  obtain ⟨w5, hw5⟩ : ∃ w5, W2.setCell ⟨d, 10, none⟩ (.slice a1 a2 a3) = w5 := ⟨_, rfl⟩
  have ho5 : ∀ j, j ≠ d → w5.heap[j]? = W2.heap[j]? := fun j hj => by rw [← hw5]; exact heap_setCell_other _ _ _ _ hj
  have hz5 : w5.heap.size = W2.heap.size := by rw [← hw5]; simp
  have hz2 : wx.heap.size ≤ W2.heap.size := hg.size
  have hd5 : DAt w5 d A n c f gen o (hdV (a1, a2, a3)) := by rw [← hw5]; exact hd2.set10 _
  refine ⟨wx, W2, w5, a1, a2, a3, hx, hrun, hw5, hX.dat.cells.2.2.2.2.2.2.2.2, ⟨⟨_, hd2.cells.2.2.2.2.2.2.2.2⟩, hd2.frozen 10⟩, hX.dat, hd2, hbx, ⟨?_, hd5, ?_, ?_, ?_, ?_, ?_⟩, fun j hj hne => ⟨(hkp j (by omega) hne).trans (hbx.block j hj), fun hjd => (ho5 j hjd).trans ((hkp j (by omega) hne).trans (hbx.block j hj))⟩⟩
  · refine ⟨?_, ?_, ?_, by omega, fun j hj hne => ?_⟩
    · rw [← hw5]; show W2.os = _; exact hg.os.trans hX.fr.os
    · rw [← hw5]; show W2.tape = _; exact hg.tape.trans hX.fr.tape
    · rw [← hw5]; show W2.output = _; exact hg.output.trans hX.fr.output
    · have hjd : j ≠ d := fun e => hne (by rw [e])
      exact (ho5 j hjd).trans ((hkp j (by omega) (hlow j (by omega))).trans (hX.fr.block j hj hne))
  · refine own_same hX.row (fun j hj => ?_)
    have h2 := own_lt' hX.row j hj
    exact (ho5 j (by omega)).trans (hkp j h2.2 (own_type hX.row hX.recs (by decide) j hj))
  · have h2 : w5.ownsRow (w.heap.size + 1) 64 5 (hdV (a1, a2, a3)) (RS.length + 1) ((RS ++ [r]).flatMap encC) := own_same hown2 (fun j hj => ho5 j (by have := (own_lt' hown2 j hj).1; omega))
    rw [List.length_append]; exact h2
  · intro x hx
    have h1 := hX.okG x hx
    refine ⟨h1.lab, ?_, h1.last⟩
    rcases h1.sam with h2 | ⟨h2, h3⟩
    · exact .inl h2
    · refine .inr ⟨own_same h2 (fun j hj => ?_), h3⟩
      have h4 := own_lt' h2 j hj
      exact (ho5 j (by omega)).trans (hkp j h4.2 (own_type h2 hX.recs (by decide) j hj))
  · intro x hx
    rcases List.mem_append.1 hx with hx | hx
    · exact h.okRec x hx
    · rw [List.mem_singleton.1 hx]; exact hr
  · exact (ho5 _ (by omega)).trans ((hkp _ (by omega) (hlow _ (by omega))).trans hX.ans)
end
end Go.Proofs.Ytdjgndnllaingaa.TrW
/-
  truth.delete: PLAIN LAW OF ITS LOOP.
-/
namespace Go.Proofs.Ytdjgndnllaingaa.TrW
set_option linter.unusedVariables false
open Go.RowKit Go.Shelf LabM LbM LabW FrW TrM
/-- Series of which the first k are done. -/
def upTo (p : Ser → Ser) (l : List Ser) (k : Nat) : List Ser := (l.take k).map p ++ l.drop k
theorem upTo_zero (p : Ser → Ser) (l : List Ser) : upTo p l 0 = l := by unfold upTo; simp
theorem upTo_all (p : Ser → Ser) (l : List Ser) : upTo p l l.length = l.map p := by unfold upTo; simp
theorem upTo_at (p : Ser → Ser) (l : List Ser) (k : Nat) (h : k < l.length) (h2 : k < (upTo p l k).length) : (upTo p l k)[k] = l[k] := by
  unfold upTo at h2 ⊢
  rw [List.getElem_append_right (by simp; omega)]
  simp [Nat.min_eq_left (Nat.le_of_lt h)]
theorem upTo_set (p : Ser → Ser) (l : List Ser) (k : Nat) (h : k < l.length) : (upTo p l k).set k (p l[k]) = upTo p l (k + 1) := by
  unfold upTo
  rw [List.set_append_right _ _ (by simp; omega), take_snocL l k h, List.map_append, List.append_assoc]
  congr 1
  rw [List.length_map, List.length_take, Nat.min_eq_left (Nat.le_of_lt h), Nat.sub_self, List.drop_eq_getElem_cons h, List.set_cons_zero]
  rfl
theorem upTo_same (p : Ser → Ser) (l : List Ser) (k : Nat) (h : k < l.length) (hp : p l[k] = l[k]) : upTo p l k = upTo p l (k + 1) := by
  unfold upTo
  rw [take_snocL l k h, List.map_append, List.append_assoc, List.drop_eq_getElem_cons h]
  congr 1
  show _ = [p l[k]] ++ _
  rw [hp]; rfl
theorem sum_snocF (p : Ser → Bool) (q : Ser → Nat) (l : List Ser) (k : Nat) (h : k < l.length) : (((l.take (k + 1)).filter p).map q).sum = (((l.take k).filter p).map q).sum + if p l[k] then q l[k] else 0 := by
  rw [take_snocL l k h, List.filter_append, List.map_append, List.sum_append]
  congr 1
  cases hp : p l[k] <;> simp [hp]
theorem delN_sum (o : TrM.Op) (l : List Ser) (k : Nat) (h : ∀ x ∈ l, x.2.1.length ≤ 200) : (((l.take k).filter (hitB o)).map (delN o)).sum ≤ 200 * k := by
  have h1 : ∀ m : List Ser, (∀ x ∈ m, x.2.1.length ≤ 200) → ((m.filter (hitB o)).map (delN o)).sum ≤ 200 * m.length := by
    intro m
    induction m with
    | nil => intro _; simp
    | cons x m ih =>
      intro hm
      have h2 := ih (fun y hy => hm y (List.mem_cons_of_mem _ hy))
      have h3 : delN o x ≤ 200 := Nat.le_trans (Nat.sub_le ..) (hm x List.mem_cons_self)
      cases hp : hitB o x
      · rw [List.filter_cons_of_neg (by rw [hp]; decide), List.length_cons]; omega
      · rw [List.filter_cons_of_pos hp, List.map_cons, List.sum_cons, List.length_cons]; omega
  have h4 := h1 (l.take k) (fun x hx => h x (List.mem_of_mem_take hx))
  have h5 : (l.take k).length ≤ k := by rw [List.length_take]; omega
  have := Nat.mul_le_mul_left 200 h5
  omega
end Go.Proofs.Ytdjgndnllaingaa.TrW
/-
  truth.delete: ITS END.
-/
namespace Go.Proofs.Ytdjgndnllaingaa.TrW
set_option linter.unusedVariables false
open Go.RowKit Go.Shelf LabM LbM LabW FrW TrM
theorem DelW.deed {w W : World} {d : Nat} {gen : Int} {o : OpH} {f : Int} {A : Option Addr} {n c : Nat} {a : Option Addr × Nat × Nat} {G : List SerH} {RS : List RecH} (h : DelW w W d gen o f A n c a G RS) {A0 : Option Addr} {n0 c0 : Nat} {f0 : Int} {a0 : Option Addr × Nat × Nat} (hd : DAt w d A0 n0 c0 f0 gen o (hdV a0)) (hdw : d < w.heap.size) (hV : Valid (G.map absR, f)) (hn : n = G.length) (N : Int) :
    Deed ((G.map absR, f), (0, N, []), RS.map absC) w d gen o (.returned (.agg #[.int .i64 0, .int .i64 N, .slice none 0 0])) (W.setRow w.heap.size #[.int .i64 0, .int .i64 N, .slice none 0 0]) := by
  have hal : Alien #[.int .i64 0, .int .i64 0, .slice none 0 0] := alien_answer _ _ _ _ _
  have ho : ∀ j, j ≠ w.heap.size → (W.setRow w.heap.size #[.int .i64 0, .int .i64 N, .slice none 0 0]).heap[j]? = W.heap[j]? := fun j hj => setRow_other _ _ _ _ hj
  obtain ⟨A2, c2, hv, hS⟩ := Sers.of_own h.row hn (fun x hx => h.okR hd hx)
  injection hv with e1 e2 e3
  subst e1 e3
  have hC : ∀ r ∈ RS, okC W r := fun r hr => by
    have := h.okRec r hr
    exact ⟨Comes.grown this.lab (offD_lab hd) h.fr (DAt.same hd h.dat), this.few, this.t, this.v⟩
  have hRc := Recs.of_own h.recs hC
  obtain ⟨a1, a2, a3⟩ := a
  have hx := below_setRow (B := 0) (Below.refl 0 W) (Nat.zero_le w.heap.size) #[.int .i64 0, .int .i64 N, .slice none 0 0]
  refine ⟨A, n, c, G, a1, RS.length, a3, RS, none, 0, 0, [], rfl, ?_, ⟨hS.off h.ans hal ho (by simp), hV⟩, rfl, hRc.off h.ans hal (by simp) ho (by simp), rfl, Sers.nil _, rfl, hx.os.trans h.fr.os, hx.tape.trans h.fr.tape, hx.output.trans h.fr.output, Nat.le_trans h.fr.size hx.size, fun k hk hne => (ho k (by omega)).trans (h.fr.block k hk hne)⟩
  have h2 := (ho d (by omega)).trans h.dat
  have ha2 : a2 = RS.length := by
    obtain ⟨A', c', hv, -, -⟩ := Comes.of_own (okA := fun _ => True) h.recs encC_len (by decide) (fun _ _ => trivial)
    injection hv
  rw [← ha2]; exact h2
end Go.Proofs.Ytdjgndnllaingaa.TrW
