/-
  truth.tell OF A CHANGE THAT MAY BE: THE WALK.
  truth.tell OF A CHANGE THAT MAY BE: THE WALK.
  truth.tell OF A CHANGE THAT MAY BE: THE WALK.
-/
import Derived.Test.YtdjgndnllaingaaJ29
import Derived.Deep.RegionLaw
/-
  truth.tell OF A CHANGE THAT MAY BE: THE WALK.
-/
namespace Go.Proofs.Ytdjgndnllaingaa.TrW
set_option linter.unusedVariables false
open Go.RowKit Go.Shelf LabM LbM LabW FrW TrM
/-- An operation's head: its kind, labels, matchers, times, a value, a generation. -/
structure OpH where
  kd : Int
  ls : Hd Lab
  ms : Hd Mat
  t : Int
  te : Int
  v : Int
  g : Int
/-- What an operation that is done has in memory. -/
def dRow (A : Option Addr) (n c : Nat) (f gen : Int) (o : OpH) (rv : Value) : Array Value :=
  #[.slice A n c, .int .i64 f, .int .i64 gen, .int .i64 o.kd, hdV o.ls.1, hdV o.ms.1, .int .i64 o.t, .int .i64 o.te, .int .u64 o.v, .int .i64 o.g, rv]
def DAt (W : World) (d : Nat) (A : Option Addr) (n c : Nat) (f gen : Int) (o : OpH) (rv : Value) : Prop := W.heap[d]? = some (.cells (dRow A n c f gen o rv) 68 (0, 0))
section
variable {W W' : World} {d : Nat} {A : Option Addr} {n c : Nat} {f gen : Int} {o : OpH} {rv : Value}
theorem DAt.later (h : DAt W d A n c f gen o rv) (hb : Below W.heap.size W W') : DAt W' d A n c f gen o rv := (hb.block _ (Array.getElem?_eq_some_iff.1 h).1).trans h
theorem DAt.lt (h : DAt W d A n c f gen o rv) : d < W.heap.size := (Array.getElem?_eq_some_iff.1 h).1
theorem DAt.cells (h : DAt W d A n c f gen o rv) : (W.cell? ⟨d, 0, none⟩ = some (.slice A n c) ∧ W.cell? ⟨d, 1, none⟩ = some (.int .i64 f)) ∧ W.cell? ⟨d, 2, none⟩ = some (.int .i64 gen) ∧ W.cell? ⟨d, 3, none⟩ = some (.int .i64 o.kd) ∧ W.cell? ⟨d, 4, none⟩ = some (hdV o.ls.1) ∧ W.cell? ⟨d, 5, none⟩ = some (hdV o.ms.1) ∧ W.cell? ⟨d, 6, none⟩ = some (.int .i64 o.t) ∧ W.cell? ⟨d, 7, none⟩ = some (.int .i64 o.te) ∧ W.cell? ⟨d, 8, none⟩ = some (.int .u64 o.v) ∧ W.cell? ⟨d, 10, none⟩ = some rv := by
  refine ⟨⟨?_, ?_⟩, ?_, ?_, ?_, ?_, ?_, ?_, ?_, ?_⟩ <;> (rw [cell_of_row _ _ _ _ _ _ h]; rfl)
theorem DAt.frozen (h : DAt W d A n c f gen o rv) (j : Nat) : W.frozen? ⟨d, j, none⟩ = false := frozen_of_row W _ j _ _ h
theorem DAt.set0 (h : DAt W d A n c f gen o rv) (A' : Option Addr) (n' c' : Nat) : DAt (W.setCell ⟨d, 0, none⟩ (.slice A' n' c')) d A' n' c' f gen o rv := heap_setCell_same W _ 0 _ _ _ h
theorem DAt.set1 (h : DAt W d A n c f gen o rv) (f' : Int) : DAt (W.setCell ⟨d, 1, none⟩ (.int .i64 f')) d A n c f' gen o rv := heap_setCell_same W _ 1 _ _ _ h
theorem DAt.set10 (h : DAt W d A n c f gen o rv) (v : Value) : DAt (W.setCell ⟨d, 10, none⟩ v) d A n c f gen o v := heap_setCell_same W _ 10 _ _ _ h
end
/-- What is read nowhere of the cells 0, 1 and 10 of it. -/
theorem Comes.offJ {α : Type} {W W' : World} {size : Nat} {encA : α → List Value} {okA : α → Prop} {A : Option Addr} {n c : Nat} {l : List α} (h : Comes W size encA okA A n c l) {k : Nat} {p : Nat → Bool}
    (hne : ∀ (x : α) (o : Nat) (j : Nat), p (o + j) = true → j < (encA x).length → (∀ j u, (encA x)[j]? = some u → W.cell? ⟨k, o + j, none⟩ = some u) → False) (hW : ∀ j, j ≠ k → W'.heap[j]? = W.heap[j]?) (hk : ∀ j, p j = false → W'.cell? ⟨k, j, none⟩ = W.cell? ⟨k, j, none⟩) (hsz : W.heap.size ≤ W'.heap.size) : Comes W' size encA okA A n c l := by
  refine ⟨h.len, h.le, h.cap, fun i x hi => ?_, h.ok⟩
  obtain ⟨b, o, hA, hb, hc⟩ := h.lies i x hi
  refine ⟨b, o, hA, Nat.lt_of_lt_of_le hb hsz, fun j u hu => ?_⟩
  by_cases e : b = k
  · subst e
    cases hp : p (o + i * size + j) with
    | true => exact (hne x (o + i * size) j hp (List.getElem?_eq_some_iff.1 hu).1 (fun j u hj => hc j u hj)).elim
    | false => exact (hk _ hp).trans (hc j u hu)
  · exact (World.cell?_of_block (hW b e)).trans (hc j u hu)
def pD (j : Nat) : Bool := j == 0 || j == 1 || j == 10
theorem pD_iff (j : Nat) : pD j = true ↔ j = 0 ∨ j = 1 ∨ j = 10 := by unfold pD; simp [or_assoc]
section
variable {W W' : World} {d : Nat} {A0 : Option Addr} {n0 c0 : Nat} {f0 gen : Int} {o : OpH} {Ar : Option Addr} {nr cr : Nat}
theorem offD_lab (h : DAt W d A0 n0 c0 f0 gen o (.slice Ar nr cr)) (x : Lab) (q j : Nat) (hp : pD (q + j) = true) (hj : j < (encL x).length) (hc : ∀ j u, (encL x)[j]? = some u → W.cell? ⟨d, q + j, none⟩ = some u) : False := by
  have hj2 : j < 2 := hj
  have e : ∃ s, (encL x)[j]? = some (.string s) := by
    rcases (by omega : j = 0 ∨ j = 1) with rfl | rfl
    · exact ⟨_, rfl⟩
    · exact ⟨_, rfl⟩
  obtain ⟨s, hs⟩ := e
  have h1 := hc j _ hs
  rw [cell_of_row _ _ _ _ _ _ h] at h1
  rw [pD_iff] at hp
  rcases hp with hp | hp | hp <;> (rw [hp] at h1; simp [dRow] at h1)
theorem offD_sam (h : DAt W d A0 n0 c0 f0 gen o (.slice Ar nr cr)) (x : Sam) (q j : Nat) (hp : pD (q + j) = true) (hj : j < (encS x).length) (hc : ∀ j u, (encS x)[j]? = some u → W.cell? ⟨d, q + j, none⟩ = some u) : False := by
  have hj2 : j < 2 := hj
  have h0 := hc 0 _ rfl
  have h1 := hc 1 _ rfl
  rw [cell_of_row _ _ _ _ _ _ h] at h0 h1
  rw [pD_iff] at hp
  have hq : q = 0 ∨ q = 1 ∨ q = 9 ∨ q = 10 := by omega
  rcases hq with rfl | rfl | rfl | rfl <;> simp [dRow] at h0 h1
theorem offD_ser (h : DAt W d A0 n0 c0 f0 gen o (.slice Ar nr cr)) (x : SerH) (q j : Nat) (hp : pD (q + j) = true) (hj : j < (encR x).length) (hc : ∀ j u, (encR x)[j]? = some u → W.cell? ⟨d, q + j, none⟩ = some u) : False := by
  have hj2 : j < 3 := hj
  have h0 := hc 0 _ rfl
  have h1 := hc 1 _ rfl
  have h2 := hc 2 _ rfl
  rw [cell_of_row _ _ _ _ _ _ h] at h0 h1 h2
  rw [pD_iff] at hp
  have hq : q = 0 ∨ q = 1 ∨ q = 8 ∨ q = 9 ∨ q = 10 := by omega
  rcases hq with rfl | rfl | rfl | rfl | rfl <;> simp [dRow, hdV] at h0 h1 h2
theorem offD_rec (h : DAt W d A0 n0 c0 f0 gen o (.slice Ar nr cr)) (x : RecH) (q j : Nat) (hp : pD (q + j) = true) (hj : j < (encC x).length) (hc : ∀ j u, (encC x)[j]? = some u → W.cell? ⟨d, q + j, none⟩ = some u) : False := by
  have hj2 : j < 5 := hj
  have h0 := hc 0 _ rfl
  have h1 := hc 1 _ rfl
  have h2 := hc 2 _ rfl
  have h3 := hc 3 _ rfl
  have h4 := hc 4 _ rfl
  rw [cell_of_row _ _ _ _ _ _ h] at h0 h1 h2 h3 h4
  rw [pD_iff] at hp
  have hq : q = 0 ∨ q = 1 ∨ q = 6 ∨ q = 7 ∨ q = 8 ∨ q = 9 ∨ q = 10 := by omega
  rcases hq with rfl | rfl | rfl | rfl | rfl | rfl | rfl <;> simp [dRow, hdV] at h0 h1 h2 h3 h4
theorem StV.offD {A : Option Addr} {n c : Nat} {F : List SerH} {f : Int} (h : StV W A n c F f) (hd : DAt W d A0 n0 c0 f0 gen o (.slice Ar nr cr)) (hW : ∀ j, j ≠ d → W'.heap[j]? = W.heap[j]?) (hk : ∀ j, pD j = false → W'.cell? ⟨d, j, none⟩ = W.cell? ⟨d, j, none⟩) (hsz : W.heap.size ≤ W'.heap.size) : StV W' A n c F f :=
  ⟨⟨Comes.offJ h.sers.row (offD_ser hd) hW hk hsz, fun x hx => ⟨Comes.offJ (h.sers.ok x hx).lab (offD_lab hd) hW hk hsz, Comes.offJ (h.sers.ok x hx).sam (offD_sam hd) hW hk hsz, (h.sers.ok x hx).last⟩⟩, h.valid⟩
theorem Recs.offD {A : Option Addr} {n c : Nat} {rs : List RecH} (h : Recs W A n c rs) (hd : DAt W d A0 n0 c0 f0 gen o (.slice Ar nr cr)) (hW : ∀ j, j ≠ d → W'.heap[j]? = W.heap[j]?) (hk : ∀ j, pD j = false → W'.cell? ⟨d, j, none⟩ = W.cell? ⟨d, j, none⟩) (hsz : W.heap.size ≤ W'.heap.size) : Recs W' A n c rs :=
  ⟨Comes.offJ h.row (offD_rec hd) hW hk hsz, fun x hx => ⟨Comes.offJ (h.ok x hx).lab (offD_lab hd) hW hk hsz, (h.ok x hx).few, (h.ok x hx).t, (h.ok x hx).v⟩⟩
end
end Go.Proofs.Ytdjgndnllaingaa.TrW
/-
  truth.tell OF A CHANGE THAT MAY BE: THE WALK.
-/
namespace Go.Proofs.Ytdjgndnllaingaa.TrW
set_option linter.unusedVariables false
open Go.RowKit Go.Shelf LabM LbM LabW FrW TrM
theorem elemC : Elem Try.prog 64 (.agg #[.int .i64 0, .slice none 0 0, .int .i64 0, .int .i64 0, .int .u64 0]) 5 56 := by unfold Elem; kernel_rfl
theorem encC_len (r : RecH) : (encC r).length = 5 := rfl
theorem encC_one (x : RecH) : ∀ u ∈ encC x, u.oneCell' = true := by
  intro u hu
  simp [encC, hdV] at hu
  rcases hu with rfl | rfl | rfl | rfl | rfl <;> rfl
def recRow (r : RecH) : Array Value := #[.int .i64 r.1, hdV r.2.1.1, .int .i64 r.2.2.1, .int .i64 r.2.2.2.1, .int .u64 r.2.2.2.2]
/-- Changes and one more: what append makes of them. -/
theorem append_rec (W : World) (v : Value) (n : Nat) (rs : List RecH) (B : Nat) (x : RecH) (g : Nat) (hB : B ≤ W.heap.size) (hn : n ≤ 1000) (hown : W.ownsRow B 64 5 v n (rs.flatMap encC)) (hg : W.heap[g]? = some (.cells (recRow x) 64 (0, 0))) :
    ∃ a W2, (∀ ty, (Builtin.append_ #[32, 32] ty #[v, .slice (some ⟨g, 0, none⟩) 1 1]).run Try.prog W = .ok (hdV a) W2) ∧ W2.ownsRow B 64 5 (hdV a) (n + 1) ((rs ++ [x]).flatMap encC) ∧ W.grownBy W2 v.ownBlock := by
  obtain ⟨i0, hi, hz0, hz1, hz2⟩ := info_parts elemC
  obtain ⟨v', W2, hr, h2, h3, -, -⟩ := run_append_own_at (P := Try.prog) W B 32 32 64 i0 (.agg #[.int .i64 0, .slice none 0 0, .int .i64 0, .int .i64 0, .int .u64 0]) 5 56 Try.underlying32 hi hz0 hz1 hz2 rfl (by decide) v n (rs.flatMap encC) hown ⟨g, 0, none⟩ 1 1 (encC x) rfl (fun j u hj => by
      rw [Addr.add_lit, cell_of_row _ _ _ _ _ _ hg, ← Array.getElem?_toList, Nat.zero_add]
      exact hj) (encC_one x) (by unfold maxLen; omega) (by omega) hB
  obtain ⟨g', cap, rfl, -, -⟩ := h2.form (by omega)
  refine ⟨(some ⟨g', 0, none⟩, n + 1, cap), W2, fun ty => hr, ?_, h3⟩
  rw [List.flatMap_append, List.flatMap_singleton]; exact h2
theorem Recs.of_own {w : World} {base n : Nat} {a : Option Addr × Nat × Nat} {rs : List RecH} (h : w.ownsRow base 64 5 (hdV a) n (rs.flatMap encC)) (hok : ∀ r ∈ rs, okC w r) : Recs w a.1 n a.2.2 rs := by
  obtain ⟨A, c, hv, -, hc⟩ := Comes.of_own (okA := fun _ => True) h encC_len (by decide) (fun _ _ => trivial)
  injection hv with e1 e2 e3
  subst e1 e3
  exact ⟨hc, hok⟩
/-- What stands behind Apply in tell, and in the end. -/
def TellE (w w2 : World) (d : Nat) (gen : Int) (o : OpH) (A9 : Option Addr) (n9 c9 : Nat) (fm : Int) (F9 : List SerH) (r : RecH) (w3 w4 w4x W2 w5 : World) (a1 : Option Addr) (a2 a3 : Nat) : Prop :=
  w2.setCell ⟨d, 0, none⟩ (.slice A9 n9 c9) = w3 ∧ w3.setCell ⟨d, 1, none⟩ (.int .i64 fm) = w4 ∧ w4.alloc (.cells (recRow r) 64 (0, 0)) = w4x ∧
  (∀ ty, (Builtin.append_ #[32, 32] ty #[.slice none 0 0, .slice (some ⟨w4.heap.size, 0, none⟩) 1 1]).run Try.prog w4x.drew = .ok (.slice a1 a2 a3) W2) ∧ W2.setCell ⟨d, 10, none⟩ (.slice a1 a2 a3) = w5 ∧
  ((∃ v, w2.cell? ⟨d, 0, none⟩ = some v) ∧ w2.frozen? ⟨d, 0, none⟩ = false ∧ (∃ v, w3.cell? ⟨d, 1, none⟩ = some v) ∧ w3.frozen? ⟨d, 1, none⟩ = false) ∧
  (w4.cell? ⟨d, 10, none⟩ = some (.slice none 0 0) ∧ w4.heap[w.heap.size]? = some (.cells (recRow r) 64 (0, 0))) ∧ (W2.cell? ⟨d, 10, none⟩ = some (.slice none 0 0) ∧ W2.frozen? ⟨d, 10, none⟩ = false) ∧
  DAt w5 d A9 n9 c9 fm gen o (.slice a1 a2 a3) ∧ StV w5 A9 n9 c9 F9 fm ∧ Recs w5 a1 1 a3 [r] ∧ a2 = 1 ∧ w.grownBy w5 (some d)
theorem tell_end {w w2 : World} {d : Nat} {A : Option Addr} {n c : Nat} {f gen : Int} {o : OpH} {A9 : Option Addr} {n9 c9 : Nat} {fm : Int} {F9 : List SerH} {r : RecH} (hd : DAt w2 d A n c f gen o (.slice none 0 0)) (hdw : d < w.heap.size) (hst : StV w2 A9 n9 c9 F9 fm) (hb : Below w.heap.size w w2) (hr : w2.heap[w.heap.size]? = some (.cells (recRow r) 64 (0, 0))) (hok : okC w r) :
    ∃ w3 w4 w4x W2 w5 a1 a2 a3, TellE w w2 d gen o A9 n9 c9 fm F9 r w3 w4 w4x W2 w5 a1 a2 a3 := by
  have hlt := (Array.getElem?_eq_some_iff.1 hr).1
  obtain ⟨w3, hw3⟩ : ∃ w3, w2.setCell ⟨d, 0, none⟩ (.slice A9 n9 c9) = w3 := ⟨_, rfl⟩
  have hd3 : DAt w3 d A9 n9 c9 f gen o (.slice none 0 0) := by rw [← hw3]; exact hd.set0 _ _ _
  obtain ⟨w4, hw4⟩ : ∃ w4, w3.setCell ⟨d, 1, none⟩ (.int .i64 fm) = w4 := ⟨_, rfl⟩
  have hd4 : DAt w4 d A9 n9 c9 fm gen o (.slice none 0 0) := by rw [← hw4]; exact hd3.set1 _
  have hz4 : w4.heap.size = w2.heap.size := by rw [← hw4, ← hw3]; simp
  have ho4 : ∀ j, j ≠ d → w4.heap[j]? = w2.heap[j]? := fun j hj => by rw [← hw4, ← hw3]; exact (heap_setCell_other _ _ _ _ hj).trans (heap_setCell_other _ _ _ _ hj)
  have hr4 := (ho4 _ (by omega)).trans hr
  obtain ⟨w4x, hw4x⟩ : ∃ w4x, w4.alloc (.cells (recRow r) 64 (0, 0)) = w4x := ⟨_, rfl⟩
  have hx : w4x.heap[w4.heap.size]? = some (.cells (recRow r) 64 (0, 0)) := by rw [← hw4x]; exact heap_alloc_new w4 _
  have hbx : Below w4.heap.size w4 w4x := by rw [← hw4x]; exact (Below.refl _ _).alloc (Nat.le_refl _) _
  obtain ⟨⟨a1, a2, a3⟩, W2, hrun, hown, hg⟩ := append_rec w4x.drew (.slice none 0 0) 0 [] w4x.heap.size r w4.heap.size (Nat.le_refl _) (by omega) (World.ownsRow_nil _ _ _ _) hx
  have hkp : ∀ j, j < w4.heap.size → W2.heap[j]? = w4.heap[j]? := fun j hj => (hg.block j (by show j < w4x.heap.size; have := hbx.size; omega) (by simp [Value.ownBlock])).trans (hbx.block j hj)
  have hzW : w4.heap.size < W2.heap.size := by have := hg.size; have h2 : w4x.drew.heap.size = w4x.heap.size := rfl; have h3 := (Array.getElem?_eq_some_iff.1 hx).1; omega
  have hdW : DAt W2 d A9 n9 c9 fm gen o (.slice none 0 0) := (hkp d (by omega)).trans hd4
  obtain ⟨w5, hw5⟩ : ∃ w5, W2.setCell ⟨d, 10, none⟩ (.slice a1 a2 a3) = w5 := ⟨_, rfl⟩
  have hd5 : DAt w5 d A9 n9 c9 fm gen o (.slice a1 a2 a3) := by rw [← hw5]; exact hdW.set10 _
  have ho5 : ∀ j, j ≠ d → w5.heap[j]? = W2.heap[j]? := fun j hj => by rw [← hw5]; exact heap_setCell_other _ _ _ _ hj
  have hz5 : w5.heap.size = W2.heap.size := by rw [← hw5]; simp
  have hcell : ∀ j, pD j = false → w5.cell? ⟨d, j, none⟩ = w2.cell? ⟨d, j, none⟩ := fun j hj => by
    rw [cell_of_row _ _ _ _ _ _ hd5, cell_of_row _ _ _ _ _ _ hd]
    have h0 : j ≠ 0 ∧ j ≠ 1 ∧ j ≠ 10 := by
      refine ⟨fun e => ?_, fun e => ?_, fun e => ?_⟩ <;> (subst e; simp [pD] at hj)
    by_cases h11 : j < 11
    · rcases (by omega : j = 2 ∨ j = 3 ∨ j = 4 ∨ j = 5 ∨ j = 6 ∨ j = 7 ∨ j = 8 ∨ j = 9) with rfl | rfl | rfl | rfl | rfl | rfl | rfl | rfl <;> rfl
    · rw [Array.getElem?_eq_none (by show 11 ≤ j; omega), Array.getElem?_eq_none (by show 11 ≤ j; omega)]
  have hst5 : StV w5 A9 n9 c9 F9 fm := by
    -- the blocks of it lie below w2's end
    have hmid : StV w4 A9 n9 c9 F9 fm := hst.offD hd (fun j hj => ho4 j hj) (fun j hj => by
      rw [cell_of_row _ _ _ _ _ _ hd4, cell_of_row _ _ _ _ _ _ hd]
      have h0 : j ≠ 0 ∧ j ≠ 1 ∧ j ≠ 10 := by
        refine ⟨fun e => ?_, fun e => ?_, fun e => ?_⟩ <;> (subst e; simp [pD] at hj)
      by_cases h11 : j < 11
      · rcases (by omega : j = 2 ∨ j = 3 ∨ j = 4 ∨ j = 5 ∨ j = 6 ∨ j = 7 ∨ j = 8 ∨ j = 9) with rfl | rfl | rfl | rfl | rfl | rfl | rfl | rfl <;> rfl
      · rw [Array.getElem?_eq_none (by show 11 ≤ j; omega), Array.getElem?_eq_none (by show 11 ≤ j; omega)]) (by omega)
    have hW2 : StV W2 A9 n9 c9 F9 fm := hmid.later ⟨hg.os.trans hbx.os, hg.tape.trans hbx.tape, hg.output.trans hbx.output, Nat.le_of_lt hzW, hkp⟩
    exact hW2.offD hdW (fun j hj => ho5 j hj) (fun j hj => by
      rw [cell_of_row _ _ _ _ _ _ hd5, cell_of_row _ _ _ _ _ _ hdW]
      have h0 : j ≠ 0 ∧ j ≠ 1 ∧ j ≠ 10 := by
        refine ⟨fun e => ?_, fun e => ?_, fun e => ?_⟩ <;> (subst e; simp [pD] at hj)
      by_cases h11 : j < 11
      · rcases (by omega : j = 2 ∨ j = 3 ∨ j = 4 ∨ j = 5 ∨ j = 6 ∨ j = 7 ∨ j = 8 ∨ j = 9) with rfl | rfl | rfl | rfl | rfl | rfl | rfl | rfl <;> rfl
      · rw [Array.getElem?_eq_none (by show 11 ≤ j; omega), Array.getElem?_eq_none (by show 11 ≤ j; omega)]) (by omega)
  have hgr : w.grownBy w5 (some d) := by
    have e5 := hw5
    refine ⟨?_, ?_, ?_, by have := hb.size; omega, fun k hk hne => ?_⟩
    · rw [← hw5]; show W2.os = w.os; rw [hg.os]; show w4x.os = _; rw [hbx.os, ← hw4, ← hw3]; exact hb.os
    · rw [← hw5]; show W2.tape = w.tape; rw [hg.tape]; show w4x.tape = _; rw [hbx.tape, ← hw4, ← hw3]; exact hb.tape
    · rw [← hw5]; show W2.output = w.output; rw [hg.output]; show w4x.output = _; rw [hbx.output, ← hw4, ← hw3]; exact hb.output
    · have hkd : k ≠ d := fun e => hne (by rw [e])
      exact (ho5 k hkd).trans ((hkp k (by have := hb.size; omega)).trans ((ho4 k hkd).trans (hb.block k hk)))
  have hown5 : w5.ownsRow w4x.heap.size 64 5 (.slice a1 a2 a3) 1 (([] ++ [r]).flatMap encC) := own_same hown (fun j hj => ho5 j (by have := (own_lt' hown j hj).1; have := hbx.size; omega))
  have ha2 : a2 = 1 := by
    obtain ⟨g', cap, hv, -, -⟩ := hown5.form (by omega)
    injection hv
  have hrec : Recs w5 a1 1 a3 [r] := Recs.of_own (a := (a1, a2, a3)) hown5 (fun x hx => by
    rw [List.mem_singleton.1 hx]
    refine ⟨?_, hok.few, hok.t, hok.v⟩
    have h1 := hok.lab.later hb
    have h2 : Comes w4 2 encL okL r.2.1.1.1 r.2.1.1.2.1 r.2.1.1.2.2 r.2.1.2 := Comes.offJ h1 (offD_lab hd) (fun j hj => ho4 j hj) (fun j hj => by
      rw [cell_of_row _ _ _ _ _ _ hd4, cell_of_row _ _ _ _ _ _ hd]
      have h0 : j ≠ 0 ∧ j ≠ 1 ∧ j ≠ 10 := by
        refine ⟨fun e => ?_, fun e => ?_, fun e => ?_⟩ <;> (subst e; simp [pD] at hj)
      by_cases h11 : j < 11
      · rcases (by omega : j = 2 ∨ j = 3 ∨ j = 4 ∨ j = 5 ∨ j = 6 ∨ j = 7 ∨ j = 8 ∨ j = 9) with rfl | rfl | rfl | rfl | rfl | rfl | rfl | rfl <;> rfl
      · rw [Array.getElem?_eq_none (by show 11 ≤ j; omega), Array.getElem?_eq_none (by show 11 ≤ j; omega)]) (by omega)
    have h3 : Comes W2 2 encL okL r.2.1.1.1 r.2.1.1.2.1 r.2.1.1.2.2 r.2.1.2 := h2.later ⟨hg.os.trans hbx.os, hg.tape.trans hbx.tape, hg.output.trans hbx.output, Nat.le_of_lt hzW, hkp⟩
    exact Comes.offJ h3 (offD_lab hdW) (fun j hj => ho5 j hj) (fun j hj => by
      rw [cell_of_row _ _ _ _ _ _ hd5, cell_of_row _ _ _ _ _ _ hdW]
      have h0 : j ≠ 0 ∧ j ≠ 1 ∧ j ≠ 10 := by
        refine ⟨fun e => ?_, fun e => ?_, fun e => ?_⟩ <;> (subst e; simp [pD] at hj)
      by_cases h11 : j < 11
      · rcases (by omega : j = 2 ∨ j = 3 ∨ j = 4 ∨ j = 5 ∨ j = 6 ∨ j = 7 ∨ j = 8 ∨ j = 9) with rfl | rfl | rfl | rfl | rfl | rfl | rfl | rfl <;> rfl
      · rw [Array.getElem?_eq_none (by show 11 ≤ j; omega), Array.getElem?_eq_none (by show 11 ≤ j; omega)]) (by omega))
  exact ⟨w3, w4, w4x, W2, w5, a1, a2, a3, hw3, hw4, hw4x, hrun, hw5, ⟨⟨_, hd.cells.1.1⟩, hd.frozen 0, ⟨_, hd3.cells.1.2⟩, hd3.frozen 1⟩, ⟨hd4.cells.2.2.2.2.2.2.2.2, hr4⟩, ⟨hdW.cells.2.2.2.2.2.2.2.2, hdW.frozen 10⟩, hd5, hst5, hrec, ha2, hgr⟩
end Go.Proofs.Ytdjgndnllaingaa.TrW
/-
  truth.tell OF A CHANGE THAT MAY BE: THE WALK.
-/
namespace Go.Proofs.Ytdjgndnllaingaa.TrW
set_option linter.unusedVariables false
open Go.RowKit Go.Shelf LabM LbM LabW FrW TrM
/-- Behind Apply: the new state lies in a box, and all that follows. -/
def TellM (w W2 : World) (g d : Nat) (gen : Int) (o : OpH) (A9 : Option Addr) (n9 c9 : Nat) (fm : Int) (F9 : List SerH) (r : RecH) : Prop :=
  W2.cell? ⟨g, 0, none⟩ = some (.slice A9 n9 c9) ∧ W2.cell? ⟨g, 1, none⟩ = some (.int .i64 fm) ∧
  ∃ w3 w4 w4x W3 w5 a1 a2 a3, TellE w W2 d gen o A9 n9 c9 fm F9 r w3 w4 w4x W3 w5 a1 a2 a3
theorem tell_mid {w W2 : World} {g d : Nat} {A : Option Addr} {n c : Nat} {f gen : Int} {o : OpH} {A9 : Option Addr} {n9 c9 : Nat} {fm : Int} {F9 : List SerH} {r : RecH} (hd : DAt w d A n c f gen o (.slice none 0 0)) (hst : StV W2 A9 n9 c9 F9 fm) (hb : Below w.heap.size w W2) (hr : W2.heap[w.heap.size]? = some (.cells (recRow r) 64 (0, 0))) (hok : okC w r) (hg : W2.heap[g]? = some (.cells #[.slice A9 n9 c9, .int .i64 fm] 28 (0, 0))) :
    TellM w W2 g d gen o A9 n9 c9 fm F9 r := by
  refine ⟨by rw [cell_of_row _ _ _ _ _ _ hg]; rfl, by rw [cell_of_row _ _ _ _ _ _ hg]; rfl, ?_⟩
  exact tell_end (hd.later hb) hd.lt hst hb hr hok
theorem tell_a {w w0 w1 : World} {d : Nat} {A : Option Addr} {n c : Nat} {f gen : Int} {o : OpH} {A9 : Option Addr} {n9 c9 : Nat} {fm : Int} {F9 : List SerH} {r : RecH} (hd : DAt w d A n c f gen o (.slice none 0 0)) (h0 : w.alloc (.cells (recRow r) 64 (0, 0)) = w0) (hok : okC w r) (hst : StV w1 A9 n9 c9 F9 fm) (hb : Below w0.heap.size w0 w1) :
    TellM w (w1.alloc (.cells #[.slice A9 n9 c9, .int .i64 fm] 28 (0, 0))) w1.heap.size d gen o A9 n9 c9 fm F9 r := by
  have hb0 : Below w.heap.size w w0 := by rw [← h0]; exact (Below.refl _ _).alloc (Nat.le_refl _) _
  have hr0 : w0.heap[w.heap.size]? = some (.cells (recRow r) 64 (0, 0)) := by rw [← h0]; exact heap_alloc_new w _
  have hbx : Below w1.heap.size w1 (w1.alloc (.cells #[.slice A9 n9 c9, .int .i64 fm] 28 (0, 0))) := (Below.refl _ _).alloc (Nat.le_refl _) _
  have hr1 := (hb.block _ (Array.getElem?_eq_some_iff.1 hr0).1).trans hr0
  exact tell_mid hd (hst.later hbx) (later (later hb0 hb) hbx) ((hbx.block _ (Array.getElem?_eq_some_iff.1 hr1).1).trans hr1) hok (heap_alloc_new w1 _)
theorem tell_b {w w0 w1 : World} {d : Nat} {A : Option Addr} {n c : Nat} {f gen : Int} {o : OpH} {A9 : Option Addr} {n9 c9 : Nat} {fm : Int} {F9 : List SerH} {r : RecH} (hd : DAt w d A n c f gen o (.slice none 0 0)) (h0 : w.alloc (.cells (recRow r) 64 (0, 0)) = w0) (hok : okC w r) (hst : StV w1 A9 n9 c9 F9 fm) (hb : Below (w0.alloc (.cells #[.slice none 0 0, .int .i64 0] 28 (0, 0))).heap.size (w0.alloc (.cells #[.slice none 0 0, .int .i64 0] 28 (0, 0))) w1) :
    (∃ v, w1.cell? ⟨w0.heap.size, 0, none⟩ = some v) ∧ w1.frozen? ⟨w0.heap.size, 0, none⟩ = false ∧ ∃ w2, w1.setCell ⟨w0.heap.size, 0, none⟩ (.slice A9 n9 c9) = w2 ∧ (∃ v, w2.cell? ⟨w0.heap.size, 1, none⟩ = some v) ∧ w2.frozen? ⟨w0.heap.size, 1, none⟩ = false ∧ ∃ w3, w2.setCell ⟨w0.heap.size, 1, none⟩ (.int .i64 fm) = w3 ∧
    TellM w w3 w0.heap.size d gen o A9 n9 c9 fm F9 r := by
  have hb0 : Below w.heap.size w w0 := by rw [← h0]; exact (Below.refl _ _).alloc (Nat.le_refl _) _
  have hr0 : w0.heap[w.heap.size]? = some (.cells (recRow r) 64 (0, 0)) := by rw [← h0]; exact heap_alloc_new w _
  have hlt0 := (Array.getElem?_eq_some_iff.1 hr0).1
  have hbx : Below w0.heap.size w0 (w0.alloc (.cells #[.slice none 0 0, .int .i64 0] 28 (0, 0))) := (Below.refl _ _).alloc (Nat.le_refl _) _
  have hx := heap_alloc_new w0 (.cells #[.slice none 0 0, .int .i64 0] 28 (0, 0))
  have hx1 := (hb.block _ (Array.getElem?_eq_some_iff.1 hx).1).trans hx
  have hb01 : Below w0.heap.size w0 w1 := later hbx hb
  have hr1 := (hb01.block _ hlt0).trans hr0
  obtain ⟨w2, hw2⟩ : ∃ w2, w1.setCell ⟨w0.heap.size, 0, none⟩ (.slice A9 n9 c9) = w2 := ⟨_, rfl⟩
  obtain ⟨w3, hw3⟩ : ∃ w3, w2.setCell ⟨w0.heap.size, 1, none⟩ (.int .i64 fm) = w3 := ⟨_, rfl⟩
  have hx2 : w2.heap[w0.heap.size]? = some (.cells #[.slice A9 n9 c9, .int .i64 0] 28 (0, 0)) := by rw [← hw2]; exact heap_setCell_same w1 _ 0 _ _ _ hx1
  have hx3 : w3.heap[w0.heap.size]? = some (.cells #[.slice A9 n9 c9, .int .i64 fm] 28 (0, 0)) := by rw [← hw3]; exact heap_setCell_same w2 _ 1 _ _ _ hx2
  have ho : ∀ j, j ≠ w0.heap.size → w3.heap[j]? = w1.heap[j]? := fun j hj => by rw [← hw3, ← hw2]; exact (heap_setCell_other _ _ _ _ hj).trans (heap_setCell_other _ _ _ _ hj)
  have hb2 : Below w0.heap.size w0 w2 := by rw [← hw2]; exact hb01.setCell (Nat.le_refl _) _
  have hb3 : Below w0.heap.size w0 w3 := by rw [← hw3]; exact hb2.setCell (Nat.le_refl _) _
  have hs3 : w1.heap.size ≤ w3.heap.size := by rw [← hw3, ← hw2]; simp
  refine ⟨⟨_, by rw [cell_of_row _ _ _ _ _ _ hx1]; rfl⟩, frozen_of_row w1 _ 0 _ _ hx1, w2, hw2, ⟨_, by rw [cell_of_row _ _ _ _ _ _ hx2]; rfl⟩, frozen_of_row w2 _ 1 _ _ hx2, w3, hw3, ?_⟩
  exact tell_mid hd (hst.off hx1 (alien_state _ _ _ _) ho hs3) (later hb0 hb3) ((ho _ (by omega)).trans hr1) hok hx3
end Go.Proofs.Ytdjgndnllaingaa.TrW
