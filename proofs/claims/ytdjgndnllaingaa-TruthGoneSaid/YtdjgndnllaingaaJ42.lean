/-
  THE PACKAGE truth: CONTRACTS IN THE WORDS OF THE PLAIN LAW.
  alluviumlaw08.works: ITS PLAIN FACTS.
-/
import Derived.Test.YtdjgndnllaingaaJ38
import Derived.Test.YtdjgndnllaingaaJ40
import Derived.Test.YtdjgndnllaingaaJ29
import Derived.Test.YtdjgndnllaingaaJ41
/-
  THE PACKAGE truth: CONTRACTS IN THE WORDS OF THE PLAIN LAW.
-/
namespace Go.Proofs.Ytdjgndnllaingaa.TrW
set_option linter.unusedVariables false
open Go.RowKit Go.Shelf LabM LbM LabW FrW TrM
/-- A state, changes, series in memory. -/
def StA (w : World) (A : Option Addr) (n c : Nat) (s : St) : Prop := ∃ hs, StV w A n c hs s.2 ∧ hs.map absR = s.1
def ReA (w : World) (A : Option Addr) (n c : Nat) (r : List Rec) : Prop := ∃ RS, Recs w A n c RS ∧ RS.map absC = r
def SeA (w : World) (A : Option Addr) (n c : Nat) (l : List Ser) : Prop := ∃ SS, Sers w A n c SS ∧ SS.map absR = l
section
variable {w w' : World} {A : Option Addr} {n c : Nat} {s t : St} {r : List Rec} {l : List Ser}
theorem StA.later (h : StA w A n c s) (hb : Below w.heap.size w w') : StA w' A n c s := by obtain ⟨hs, h1, h2⟩ := h; exact ⟨hs, h1.later hb, h2⟩
theorem ReA.later (h : ReA w A n c r) (hb : Below w.heap.size w w') : ReA w' A n c r := by obtain ⟨hs, h1, h2⟩ := h; exact ⟨hs, h1.later hb, h2⟩
theorem SeA.later (h : SeA w A n c l) (hb : Below w.heap.size w w') : SeA w' A n c l := by obtain ⟨hs, h1, h2⟩ := h; exact ⟨hs, h1.later hb, h2⟩
theorem StA.valid (h : StA w A n c s) : Valid s := by obtain ⟨hs, h1, h2⟩ := h; have := h1.valid; rw [h2] at this; exact this
theorem StA.ser (h : StA w A n c s) : SeA w A n c s.1 := by obtain ⟨hs, h1, h2⟩ := h; exact ⟨hs, h1.sers, h2⟩
theorem SeA.len (h : SeA w A n c l) : l.length = n := by obtain ⟨hs, h1, h2⟩ := h; rw [← h2, List.length_map]; exact h1.row.len
theorem SeA.le (h : SeA w A n c l) : n ≤ c := by obtain ⟨hs, h1, h2⟩ := h; exact h1.row.le
theorem SeA.cap (h : SeA w A n c l) : c ≤ 9223372036854775807 := by obtain ⟨hs, h1, h2⟩ := h; exact h1.row.cap
theorem ReA.len (h : ReA w A n c r) : r.length = n := by obtain ⟨hs, h1, h2⟩ := h; rw [← h2, List.length_map]; exact h1.row.len
theorem ReA.le (h : ReA w A n c r) : n ≤ c := by obtain ⟨hs, h1, h2⟩ := h; exact h1.row.le
theorem ReA.cap (h : ReA w A n c r) : c ≤ 9223372036854775807 := by obtain ⟨hs, h1, h2⟩ := h; exact h1.row.cap
theorem StA.len (h : StA w A n c s) : s.1.length = n := h.ser.len
theorem StA.le (h : StA w A n c s) : n ≤ c := h.ser.le
theorem StA.cap (h : StA w A n c s) : c ≤ 9223372036854775807 := h.ser.cap
theorem StA.nil (w : World) : StA w none 0 0 ([], 0) := ⟨[], ⟨Sers.nil w, valid0⟩, rfl⟩
/-- A store into a box that cannot be read as a part of it. -/
theorem StA.off {W W' : World} (h : StA W A n c s) {k : Nat} {cs : Array Value} {t : TypeId} (hk : W.heap[k]? = some (.cells cs t (0, 0))) (hcs : Alien cs) (hW : ∀ j, j ≠ k → W'.heap[j]? = W.heap[j]?) (hsz : W.heap.size ≤ W'.heap.size) : StA W' A n c s := by
  obtain ⟨hs, h1, h2⟩ := h; exact ⟨hs, h1.off hk hcs hW hsz, h2⟩
theorem ReA.off {W W' : World} (h : ReA W A n c r) {k : Nat} {cs : Array Value} {t : TypeId} (hk : W.heap[k]? = some (.cells cs t (0, 0))) (hcs : Alien cs) (h4 : cs.size ≤ 4) (hW : ∀ j, j ≠ k → W'.heap[j]? = W.heap[j]?) (hsz : W.heap.size ≤ W'.heap.size) : ReA W' A n c r := by
  obtain ⟨hs, h1, h2⟩ := h; exact ⟨hs, h1.off hk hcs h4 hW hsz, h2⟩
theorem SeA.off {W W' : World} (h : SeA W A n c l) {k : Nat} {cs : Array Value} {t : TypeId} (hk : W.heap[k]? = some (.cells cs t (0, 0))) (hcs : Alien cs) (hW : ∀ j, j ≠ k → W'.heap[j]? = W.heap[j]?) (hsz : W.heap.size ≤ W'.heap.size) : SeA W' A n c l := by
  obtain ⟨hs, h1, h2⟩ := h; exact ⟨hs, h1.off hk hcs hW hsz, h2⟩
def AnsA (w : World) (a : Ans) (A : Option Addr) (n c : Nat) : Prop := SeA w A n c a.2.2
theorem one_box (w : World) (c1 : Array Value) (t1 : TypeId) : ∃ W, w.alloc (.cells c1 t1 (0, 0)) = W ∧ Below w.heap.size w W ∧ W.heap[w.heap.size]? = some (.cells c1 t1 (0, 0)) ∧ W.heap.size = w.heap.size + 1 :=
  ⟨_, rfl, (Below.refl _ _).alloc (Nat.le_refl _) _, heap_alloc_new w _, by simp⟩
theorem two_boxes (w : World) (c1 c2 : Array Value) (t1 t2 : TypeId) : ∃ W, (w.alloc (.cells c1 t1 (0, 0))).alloc (.cells c2 t2 (0, 0)) = W ∧ Below w.heap.size w W ∧ W.heap[w.heap.size]? = some (.cells c1 t1 (0, 0)) ∧ W.heap[w.heap.size + 1]? = some (.cells c2 t2 (0, 0)) ∧ W.heap.size = w.heap.size + 2 := by
  obtain ⟨W1, h1, b1, r1, z1⟩ := one_box w c1 t1
  obtain ⟨W2, h2, b2, r2, z2⟩ := one_box W1 c2 t2
  refine ⟨W2, by rw [h1, h2], later b1 b2, (b2.block _ (by omega)).trans r1, by rw [← z1]; exact r2, by omega⟩
/-- Two cells, three cells of a box, in whatever world that came of it. -/
theorem row2 {w W : World} {g : Nat} {a b : Value} {t : TypeId} (h : w.heap[g]? = some (.cells #[a, b] t (0, 0))) (hb : Below w.heap.size w W) : W.cell? ⟨g, 0, none⟩ = some a ∧ W.cell? ⟨g, 1, none⟩ = some b := by
  have h := (hb.block _ (Array.getElem?_eq_some_iff.1 h).1).trans h
  refine ⟨?_, ?_⟩ <;> (rw [cell_of_row _ _ _ _ _ _ h]; rfl)
theorem row3 {w W : World} {g : Nat} {a b c : Value} {t : TypeId} (h : w.heap[g]? = some (.cells #[a, b, c] t (0, 0))) (hb : Below w.heap.size w W) : W.cell? ⟨g, 0, none⟩ = some a ∧ W.cell? ⟨g, 1, none⟩ = some b ∧ W.cell? ⟨g, 2, none⟩ = some c := by
  have h := (hb.block _ (Array.getElem?_eq_some_iff.1 h).1).trans h
  refine ⟨?_, ?_, ?_⟩ <;> (rw [cell_of_row _ _ _ _ _ _ h]; rfl)
/-- truth.Do. -/
theorem do_c {o : OpH} {gen : Int} {a : Ans} (h : StA w A n c s) (ho : OkO w o) (hd : doM s (absO o) gen = (t, a, r)) :
    Calls Try.prog 11 #[.agg #[.slice A n c, .int .i64 s.2], .agg #[.int .i64 o.kd, hdV o.ls.1, hdV o.ms.1, .int .i64 o.t, .int .i64 o.te, .int .u64 o.v, .int .i64 o.g], .int .i64 gen] w fun e w' => ∃ A9 n9 c9 AR nr cr AS ns cs, e = .returned (.tuple #[.agg #[.slice A9 n9 c9, .int .i64 t.2], .agg #[.int .i64 a.1, .int .i64 a.2.1, .slice AS ns cs], .slice AR nr cr]) ∧ StA w' A9 n9 c9 t ∧ ReA w' AR nr cr r ∧ SeA w' AS ns cs a.2.2 ∧ Below w.heap.size w w' := by
  obtain ⟨hs, h1, h2⟩ := h
  have hs2 : (hs.map absR, s.2) = s := by rw [h2]
  refine (do_any A n c hs s.2 gen o w h1 ho).mono ?_
  rw [hs2, hd]
  rintro e w' ⟨A9, n9, c9, F9, AR, nr, cr, RS, AS, ns, cs, SS, rfl, k1, k2, k3, k4, k5, k6, k7⟩
  exact ⟨A9, n9, c9, AR, nr, cr, AS, ns, cs, rfl, ⟨F9, k1, k2⟩, ⟨RS, k3, k4⟩, ⟨SS, k5, k6⟩, k7⟩
/-- truth.All. -/
theorem all_c {A3 : Option Addr} {n3 c3 k : Nat} (h : StA w A n c s) (hr : ReA w A3 n3 c3 r) (hn3 : n3 ≤ 1000000) (hd : allM s r = (t, k)) :
    Calls Try.prog 12 #[.agg #[.slice A n c, .int .i64 s.2], .slice A3 n3 c3] w fun e w' => ∃ A9 n9 c9, e = .returned (.tuple #[.agg #[.slice A9 n9 c9, .int .i64 t.2], .int .i64 (k : Int)]) ∧ StA w' A9 n9 c9 t ∧ Below w.heap.size w w' := by
  obtain ⟨hs, h1, h2⟩ := h
  obtain ⟨RS, r1, r2⟩ := hr
  have hs2 : (hs.map absR, s.2) = s := by rw [h2]
  refine (TrW.all_any A n c hs s.2 A3 n3 c3 RS w h1 r1 hn3).mono ?_
  rw [hs2, r2, hd]
  rintro e w' ⟨A9, n9, c9, F, f', k', rfl, k1, k2, k3⟩
  injection k2 with k2 k4
  subst k4
  rw [k2]
  exact ⟨A9, n9, c9, rfl, ⟨F, k1, rfl⟩, k3⟩
theorem StA.fewS {hs : List SerH} {f : Int} (h : StV w A n c hs f) : FewS hs := h.few
/-- truth.Same. -/
theorem same_c {A2 : Option Addr} {n2 c2 : Nat} (h : StA w A n c s) (h2 : StA w A2 n2 c2 t) :
    Calls Try.prog 13 #[.agg #[.slice A n c, .int .i64 s.2], .agg #[.slice A2 n2 c2, .int .i64 t.2]] w fun e w' => e = .returned (.bool (decide (s = t))) ∧ Below w.heap.size w w' := by
  obtain ⟨hs, h1, e1⟩ := h
  obtain ⟨ht, h3, e3⟩ := h2
  have := tsame_any A n c hs s.2 A2 n2 c2 ht t.2 w h1.sers h3.sers h1.few h3.few h1.small h3.small
  rw [e1, e3] at this
  exact this
/-- truth.Valid. -/
theorem valid_c (h : StA w A n c s) : Calls Try.prog 14 #[.agg #[.slice A n c, .int .i64 s.2]] w fun e w' => e = .returned (.bool true) ∧ Below w.heap.size w w' := by
  obtain ⟨hs, h1, e1⟩ := h
  exact valid_yes A n c hs s.2 w h1
/-- truth.Find. -/
theorem find_c {f : Int} {A2 : Option Addr} {n2 c2 : Nat} {L : List Lab} (h : SeA w A n c l) (hn : n ≤ 1000000) (hF : ∀ x ∈ l, fewB x.1 = true) (h2 : Comes w 2 encL okL A2 n2 c2 L) (hf : fewB L = true) :
    Calls Try.prog 16 #[.agg #[.slice A n c, .int .i64 f], .slice A2 n2 c2] w fun e w' => e = .returned (.int .i64 (findI l L)) ∧ Below w.heap.size w w' := by
  obtain ⟨hs, h1, rfl⟩ := h
  exact find_any A n c hs f A2 n2 c2 L w h1 hn (fun x hx => hF _ (List.mem_map.2 ⟨x, hx, rfl⟩)) h2 hf
/-- truth.Fits. -/
theorem fits_c {f gen : Int} (h : SeA w A n c l) (hn : n ≤ 1000000) :
    Calls Try.prog 20 #[.agg #[.slice A n c, .int .i64 f], .int .i64 gen] w fun e w' => e = .returned (.bool (fitsM l gen)) ∧ Below w.heap.size w w' := by
  obtain ⟨hs, h1, rfl⟩ := h
  exact tfits_any A n c hs f gen w h1 hn
/-- truth.Apply. -/
theorem apply_c {A2 : Option Addr} {n2 c2 : Nat} {kd T O V : Int} {L : List Lab} {e : Int} (h : StA w A n c s) (h2 : Comes w 2 encL okL A2 n2 c2 L) (hf : fewB L = true) (hT : -9223372036854775808 ≤ T ∧ T ≤ 9223372036854775807) (hV : 0 ≤ V ∧ V < 18446744073709551616) (hd : applyM s (kd, L, T, O, V) = (t, e)) :
    Calls Try.prog 19 #[.agg #[.slice A n c, .int .i64 s.2], .agg #[.int .i64 kd, .slice A2 n2 c2, .int .i64 T, .int .i64 O, .int .u64 V]] w fun ex w' => ∃ A9 n9 c9, ex = .returned (.tuple #[.agg #[.slice A9 n9 c9, .int .i64 t.2], .int .i64 e]) ∧ StA w' A9 n9 c9 t ∧ Below w.heap.size w w' := by
  obtain ⟨hs, h1, e1⟩ := h
  have hs2 : (hs.map absR, s.2) = s := by rw [e1]
  have hv := valid_apply h1.valid (kd, L, T, O, V)
  have := apply_any A n c hs s.2 kd A2 n2 c2 L T O V w h1.sers (by have := h1.n20; omega) h1.few h1.small h2 hf hT hV
  rw [hs2] at this hv
  refine this.mono ?_
  unfold ApA
  rw [hd] at hv ⊢
  rintro ex w' ⟨A9, n9, c9, F9, rfl, k1, k2, k3⟩
  exact ⟨A9, n9, c9, rfl, ⟨F9, ⟨k1, by rw [k2]; exact hv⟩, k2⟩, k3⟩
end
end Go.Proofs.Ytdjgndnllaingaa.TrW
/-
  alluviumlaw08.works: ITS PLAIN FACTS.
-/
namespace Go.Proofs.Ytdjgndnllaingaa.TrW
set_option linter.unusedVariables false
open Go.RowKit Go.Shelf LabM LbM LabW FrW TrM
def L0 : List Lab := [(⟨#[97]⟩, ⟨#[120]⟩)]
def s1 : St := ([(L0, [(1, 5)], 1)], 0)
def s2 : St := ([], 2)
theorem checkL0 : checkB L0 = true := by decide
theorem longL0 : longL L0 = 1 := by decide
theorem lim3 : limI 3 = 48 := by decide
theorem wk1 : doM ([], 0) ⟨0, L0, [], 1, 0, 5, 0⟩ 3 = (s1, (0, 1, []), [(0, L0, 1, 0, 5)]) := by
  rw [do_put rfl]
  have : allowed ([], 0) L0 (1, 5) 3 = (0, false) := by
    unfold allowed; rw [checkL0, longL0, lim3]; rfl
  simp only [this]
  rfl
theorem find1 : fnd s1.1 L0 = some 0 := by
  unfold fnd s1
  rw [List.findIdx?_cons]
  simp
theorem wk2 : doM s1 ⟨0, L0, [], 1, 0, 5, 0⟩ 3 = (s1, (0, 0, []), []) := by
  rw [do_put rfl]
  have : allowed s1 L0 (1, 5) 3 = (0, true) := by
    unfold allowed; rw [checkL0, longL0, lim3, find1]; rfl
  simp only [this]
  rfl
theorem wk3 : doM s1 ⟨0, L0, [], 1, 0, 6, 0⟩ 3 = (s1, (5, 0, []), []) := by
  rw [do_put rfl]
  have : allowed s1 L0 (1, 6) 3 = (5, false) := by
    unfold allowed; rw [checkL0, longL0, lim3, find1]; rfl
  simp only [this]
  rfl
theorem wk4 : applyM ([], 0) (0, L0, 1, 0, 5) = (s1, 0) := by
  unfold applyM
  have : allowed ([], 0) L0 (1, 5) 3 = (0, false) := by
    unfold allowed; rw [checkL0, longL0, lim3]; rfl
  simp only [this]
  rfl
theorem wk5 : doM s1 ⟨2, [], [], 2, 0, 0, 0⟩ 3 = (s2, (0, 1, []), [(2, [], 2, 0, 0)]) := by
  rw [do_keep rfl]
  rfl
theorem wk6 : allM s1 [(2, [], 2, 0, 0), (2, [], 2, 0, 0)] = (s2, 1) := by rfl
theorem wk7 : findI s1.1 L0 = 0 := by unfold findI; rw [find1]; rfl
theorem wk8 : findI s2.1 L0 = -1 := by rfl
theorem wk9 : fitsM s1.1 1 = true := by decide
theorem wk10 : fitsM s1.1 0 = false := by decide
theorem fewL0 : fewB L0 = true := few_of_check checkL0
theorem okL0 : ∀ x ∈ L0, okL x := by
  intro x hx
  have : x = (⟨#[97]⟩, ⟨#[120]⟩) := by simpa [L0] using hx
  subst this
  exact ⟨by decide, by decide⟩
end Go.Proofs.Ytdjgndnllaingaa.TrW
