/-
  THINGS ONE BEHIND ANOTHER IN MEMORY, AS A LIST; HOW A SLICE THAT CAME IN IS OPENED AS ONE.
  label.Get, alluviumref06.Get: THE WALKS.
-/
import Derived.Test.YtdjgndnllaingaaJ04
import Derived.ProofKit
import Derived.OpenShut
import Derived.Deep.Slices
import Derived.Deep.Fields
import Derived.ChangeSame
import Derived.Laws.OwnMore
import Derived.Deep.AppendLies
import Derived.Test.YtdjgndnllaingaaRows
import Derived.Shelf.Abstract
import Derived.Test.YtdjgndnllaingaaJ01
import Derived.StillTailTactics
import Derived.Deep.QuietTactic
import Derived.BigQuiet
import Derived.Outline
/-
  THINGS ONE BEHIND ANOTHER IN MEMORY, AS A LIST; HOW A SLICE THAT CAME IN IS OPENED AS ONE.
-/
namespace Go.Proofs.Ytdjgndnllaingaa
open Go.RowKit Go.ChangeShapes Go.WideShapes Go.Deep

/-- The things l lie one behind another from A on, each as the cells that enc tells, below block B. -/
def Lies {α : Type} (w : World) (B size : Nat) (enc : α → List Value) (A : Option Addr) (l : List α) : Prop :=
  ∀ i x, l[i]? = some x → ∃ b o, A = some ⟨b, o, none⟩ ∧ b < B ∧ ∀ j u, (enc x)[j]? = some u → w.cell? ⟨b, o + i * size + j, none⟩ = some u
section
variable {α : Type} {w w' : World} {B B' size : Nat} {enc : α → List Value} {A : Option Addr} {l : List α}
theorem Lies.nil : Lies w B size enc A ([] : List α) := fun i x h => by simp at h
theorem Lies.keep (h : Lies w B size enc A l) (hk : ∀ p : Addr, p.block < B → w'.cell? p = w.cell? p) : Lies w' B size enc A l := fun i x hi => by
  obtain ⟨b, o, hA, hb, hc⟩ := h i x hi
  exact ⟨b, o, hA, hb, fun j u hu => (hk _ hb).trans (hc j u hu)⟩
theorem Lies.mono (h : Lies w B size enc A l) (hB : B ≤ B') : Lies w B' size enc A l := fun i x hi => by
  obtain ⟨b, o, hA, hb, hc⟩ := h i x hi
  exact ⟨b, o, hA, by omega, hc⟩
theorem Lies.below (h : Lies w B size enc A l) (hb : Below B w w') : Lies w' B size enc A l := h.keep fun _ hp => hb.cell hp
theorem Lies.later (h : Lies w w.heap.size size enc A l) (hb : Below w.heap.size w w') : Lies w' w'.heap.size size enc A l := (h.below hb).mono hb.size
theorem Lies.drewN (h : Lies w B size enc A l) (n : Nat) : Lies (w.drewN n) B size enc A l := h
theorem flatMap_at (hs : ∀ x, (enc x).length = size) : ∀ (l : List α) (i : Nat) (x : α), l[i]? = some x → ∀ j, j < size → (l.flatMap enc)[i * size + j]? = (enc x)[j]?
  | [], i, x, h, j, hj => by simp at h
  | y :: l, 0, x, h, j, hj => by
    simp at h; subst h
    rw [List.flatMap_cons, Nat.zero_mul, Nat.zero_add, List.getElem?_append_left (by rw [hs]; exact hj)]
  | y :: l, i + 1, x, h, j, hj => by
    have h' : l[i]? = some x := by simpa using h
    rw [List.flatMap_cons, List.getElem?_append_right (by rw [hs, Nat.add_mul]; omega), hs, ← flatMap_at hs l i x h' j hj]
    congr 1
    rw [Nat.add_mul]; omega
theorem flatMap_len (hs : ∀ x, (enc x).length = size) (l : List α) : (l.flatMap enc).length = l.length * size := by
  induction l with
  | nil => simp
  | cons x l ih => rw [List.flatMap_cons, List.length_append, hs, ih, List.length_cons, Nat.add_mul]; omega
/-- What the call owns. -/
theorem Lies.of_own {base n c : Nat} {e : TypeId} (h : w.ownsRow base e size (.slice A n c) n (l.flatMap enc)) (hs : ∀ x, (enc x).length = size) (h0 : 0 < size) : Lies w w.heap.size size enc A l ∧ n = l.length := by
  have hn : n = l.length := by
    have := h.1
    rw [flatMap_len hs] at this
    exact (Nat.eq_of_mul_eq_mul_right h0 this).symm
  refine ⟨fun i x hi => ?_, hn⟩
  have hlt : i < l.length := (List.getElem?_eq_some_iff.1 hi).1
  obtain ⟨g, cap, hv, _, hg⟩ := h.form (by omega)
  have hA : A = some ⟨g, 0, none⟩ := by injection hv
  have hcc : c = cap := by injection hv
  subst hA
  refine ⟨g, 0, rfl, hg, fun j u hu => ?_⟩
  have hj : j < size := by have := (List.getElem?_eq_some_iff.1 hu).1; rw [hs] at this; exact this
  have hij : i * size + j < n * size := by
    have : (i + 1) * size ≤ n * size := Nat.mul_le_mul_right _ (by omega)
    rw [Nat.add_mul] at this; omega
  rw [Nat.zero_add, h.cellAt _ hij, flatMap_at hs l i x hi j hj, hu]
end
theorem addr_plain {w : World} {a : Addr} {u : Value} (h : w.cell? a = some u) : a = ⟨a.block, a.off, none⟩ := by
  obtain ⟨b, o, s⟩ := a
  cases s with
  | none => rfl
  | some k =>
    unfold World.cell? at h
    split at h <;> simp at h
theorem block_lt {w : World} {a : Addr} {u : Value} (h : w.cell? a = some u) : a.block < w.heap.size := World.block_lt_of_cell? w _ h
theorem list_of_lt {α : Type} {p : Nat → α → Prop} : ∀ {n : Nat}, (∀ i, i < n → ∃ x, p i x) → ∃ l : List α, l.length = n ∧ ∀ i x, l[i]? = some x → p i x
  | 0, _ => ⟨[], rfl, fun i x h => by simp at h⟩
  | n + 1, h => by
    obtain ⟨l, hl, hp⟩ := list_of_lt (n := n) (fun i hi => h i (by omega))
    obtain ⟨y, hy⟩ := h n (by omega)
    refine ⟨l ++ [y], by simp [hl], fun i x hi => ?_⟩
    by_cases hlt : i < l.length
    · rw [List.getElem?_append_left hlt] at hi; exact hp i x hi
    · rw [List.getElem?_append_right (by omega)] at hi
      have h0 : i - l.length = 0 := by
        have := (List.getElem?_eq_some_iff.1 hi).1; simp at this; omega
      rw [h0] at hi
      simp at hi
      subst hi
      have : i = n := by omega
      subst this; exact hy
section
variable {H : Type} {enc : TypeId × Value → H} {P : Program} {w : World} {base : Nat} {spare : Nat → Bool} {held : Bool}
/-- A struct of one-cell fields, by its cells. -/
theorem trod_cells {e : TypeId} {fs : Array Field} {fuel : Nat} {cs : List Value} {x : DataW H × List MemPlace} (he : P.underlying e = some (.struct fs)) (hone : oneCellFields P fs = true) (hC : P.cellsOf e = fs.size)
    (h : DataW.trod enc P w base spare held fuel e cs = some x) : cs.length = fs.size ∧ ∀ (j : Nat) (f : Field), fs[j]? = some f → ∃ (v : Value) (n : Nat) (y : DataW H × List MemPlace), cs[j]? = some v ∧ DataW.trod enc P w base spare held n f.type [v] = some y := by
  obtain ⟨ys, n, hn, hy, hlen, hyl, hf⟩ := DataW.trod_struct he h
  refine ⟨by omega, fun j f hj => ?_⟩
  obtain ⟨ho, hk⟩ := hone_of hone j f hj
  have hjl : j < fs.size := (Array.getElem?_eq_some_iff.1 hj).1
  have h1 := hf j f hj
  rw [ho, hk] at h1
  have hone' : (cs.drop j).take 1 = [cs[j]'(by omega)] := by
    rw [List.drop_eq_getElem_cons (by omega)]
    rfl
  rw [hone'] at h1
  have hys : ys[j]? = some (ys[j]'(by omega)) := List.getElem?_eq_getElem (by omega)
  exact ⟨_, n, _, List.getElem?_eq_getElem (by omega), h1.trans hys⟩
/-- A SLICE THAT CAME IN. -/
theorem open_lies {α : Type} {t e : TypeId} {size : Nat} (ht : P.underlying t = some (.slice e)) (hC : P.cellsOf e = size) (hs : 0 < size) (encA : α → List Value) (okA : α → Prop) (hl : ∀ x, (encA x).length = size)
    (dec : ∀ n cs y, DataW.trod enc P w base spare held n e cs = some y → ∃ x, cs = encA x ∧ okA x) {a0 : Option Addr} {len cap : Nat} {d : DataW H} {ps : List MemPlace} (h : DataW.Trod enc P w base spare held t (.slice a0 len cap) d ps) :
    ∃ l : List α, l.length = len ∧ len ≤ cap ∧ cap ≤ maxLen ∧ Lies w w.heap.size size encA a0 l ∧ ∀ x ∈ l, okA x := by
  obtain ⟨fuel, hf⟩ := h
  rcases open_slice ht hf with ⟨hcs, _⟩ | ⟨a, len', cap', m, n, D, Pl, hcs, hb, hle, hm, hmm, hx, hi⟩
  · have e1 : (Value.slice a0 len cap) = .slice none 0 0 := by simpa [Value.cells] using hcs
    injection e1 with e1 e2 e3
    subst e1 e2 e3
    exact ⟨[], rfl, Nat.le_refl _, Nat.zero_le _, Lies.nil, fun x hx => by simp at hx⟩
  · have e1 : (Value.slice a0 len cap) = .slice (some a) len' cap' := by simpa [Value.cells] using hcs
    injection e1 with e1 e2 e3
    subst e1 e2 e3
    have hlm : len ≤ m := by rw [hmm]; split <;> omega
    have key : ∀ i, i < len → ∃ x : α, okA x ∧ ∀ j u, (encA x)[j]? = some u → w.cell? (a.add (i * size + j)) = some u := by
      intro i him
      obtain ⟨cs', hc, ht'⟩ := hi i (by omega)
      rw [hC] at hc
      obtain ⟨x, rfl, hok⟩ := dec _ _ _ ht'
      obtain ⟨_, hcl, hat⟩ := World.cells?_some hc
      refine ⟨x, hok, fun j u hu => ?_⟩
      have hj : j < size := by have := (List.getElem?_eq_some_iff.1 hu).1; rw [hl] at this; exact this
      rw [← Go.Deep.add_add, hat j hj, hu]
    obtain ⟨l, hll, hlp⟩ := list_of_lt key
    refine ⟨l, hll, hle, hm, fun i x hix => ?_, fun x hx => ?_⟩
    · have hlt : i < l.length := (List.getElem?_eq_some_iff.1 hix).1
      obtain ⟨_, h0⟩ := hlp 0 (l[0]'(by omega)) (List.getElem?_eq_getElem (by omega))
      have hz := h0 0 _ (List.getElem?_eq_getElem (by rw [hl]; exact hs))
      rw [show 0 * size + 0 = 0 by simp, show a.add 0 = a by simp [Addr.add]] at hz
      have hp := addr_plain hz
      refine ⟨a.block, a.off, congrArg some hp, block_lt hz, fun j u hu => ?_⟩
      have h1 := (hlp i x hix).2 j u hu
      rw [hp] at h1
      have h2 : (⟨a.block, a.off, none⟩ : Addr).add (i * size + j) = ⟨a.block, a.off + i * size + j, none⟩ := by
        rw [Addr.add_lit, Nat.add_assoc]
      rw [h2] at h1; exact h1
    · obtain ⟨i, hix⟩ := List.getElem?_of_mem hx
      exact (hlp i x hix).1
end
/-- A slice that came in: the things l, one behind another. -/
structure Comes {α : Type} (w : World) (size : Nat) (encA : α → List Value) (okA : α → Prop) (A : Option Addr) (n c : Nat) (l : List α) : Prop where
  len : l.length = n
  le : n ≤ c
  cap : c ≤ maxLen
  lies : Lies w w.heap.size size encA A l
  ok : ∀ x ∈ l, okA x
theorem open_comes {α : Type} {H : Type} {enc : TypeId × Value → H} {P : Program} {w : World} {base : Nat} {spare : Nat → Bool} {held : Bool} {t e : TypeId} {size : Nat} (ht : P.underlying t = some (.slice e)) (hC : P.cellsOf e = size) (hs : 0 < size) (encA : α → List Value) (okA : α → Prop) (hl : ∀ x, (encA x).length = size)
    (dec : ∀ n cs y, DataW.trod enc P w base spare held n e cs = some y → ∃ x, cs = encA x ∧ okA x) {a0 : Option Addr} {len cap : Nat} {d : DataW H} {ps : List MemPlace} (h : DataW.Trod enc P w base spare held t (.slice a0 len cap) d ps) :
    ∃ l : List α, Comes w size encA okA a0 len cap l := by
  obtain ⟨l, h1, h2, h3, h4, h5⟩ := open_lies ht hC hs encA okA hl dec h
  exact ⟨l, h1, h2, h3, h4, h5⟩
/-- One thing of it, by its cells. -/
theorem Lies.at_ {α : Type} {w : World} {B size : Nat} {enc : α → List Value} {A : Option Addr} {l : List α} (h : Lies w B size enc A l) {k : Nat} (hk : k < l.length) :
    ∃ b o, A = some ⟨b, o, none⟩ ∧ b < B ∧ ∀ j u, (enc l[k])[j]? = some u → w.cell? ⟨b, o + k * size + j, none⟩ = some u := h k _ (List.getElem?_eq_getElem hk)
/-- One thing of it, by its cells, in whatever world that came of w. -/
theorem Lies.all {α : Type} {w : World} {size : Nat} {enc : α → List Value} {A : Option Addr} {l : List α} (h : Lies w w.heap.size size enc A l) {k : Nat} (hk : k < l.length) :
    ∃ b o, A = some ⟨b, o, none⟩ ∧ b < w.heap.size ∧ ∀ W, Below w.heap.size w W → ∀ j u, (enc l[k])[j]? = some u → W.cell? ⟨b, o + k * size + j, none⟩ = some u := by
  obtain ⟨b, o, hA, hb, hc⟩ := h.at_ hk
  exact ⟨b, o, hA, hb, fun W hW j u hu => (hW.cell (p := ⟨b, o + k * size + j, none⟩) hb).trans (hc j u hu)⟩
theorem below_self_drew (w : World) : Below w.heap.size w w.drew := ⟨rfl, rfl, rfl, Nat.le_refl _, fun _ _ => rfl⟩
theorem below_self_drewN (w : World) (n : Nat) : Below w.heap.size w (w.drewN n) := ⟨rfl, rfl, rfl, Nat.le_refl _, fun _ _ => rfl⟩
theorem take_snocL {α : Type} (l : List α) (k : Nat) (h : k < l.length) : l.take (k + 1) = l.take k ++ [l[k]] := by
  rw [List.take_add_one, List.getElem?_eq_getElem h]; rfl
theorem u64_of {a : Int} (h : (Lit.int .u64 a).wf = true) : ∃ x : Nat, x < 18446744073709551616 ∧ a = (x : Int) := by
  have h2 : 0 ≤ a ∧ a < 18446744073709551616 := by
    have h3 : IntKind.u64.min ≤ a ∧ a ≤ IntKind.u64.max := by simpa [Lit.wf] using h
    have e1 : IntKind.u64.min = 0 := by decide
    have e2 : IntKind.u64.max = 18446744073709551615 := by decide
    omega
  exact ⟨a.toNat, by omega, by omega⟩
theorem i64_of {a : Int} (h : (Lit.int .i64 a).wf = true) : -9223372036854775808 ≤ a ∧ a ≤ 9223372036854775807 := by
  have h3 : IntKind.i64.min ≤ a ∧ a ≤ IntKind.i64.max := by simpa [Lit.wf] using h
  have e1 : IntKind.i64.min = -9223372036854775808 := by decide
  have e2 : IntKind.i64.max = 9223372036854775807 := by decide
  omega
/-- A block that is known whole, as a list. -/
theorem Comes.block {α : Type} {w : World} {size g n c : Nat} {e : TypeId} {cs : Array Value} {encA : α → List Value} {okA : α → Prop} {l : List α} (h : w.heap[g]? = some (.cells cs e (0, 0))) (hcs : cs.toList = l.flatMap encA) (hs : ∀ x, (encA x).length = size) (hn : l.length = n) (hc : n ≤ c) (hm : c ≤ maxLen) (hok : ∀ x ∈ l, okA x) :
    Comes w size encA okA (some ⟨g, 0, none⟩) n c l := by
  refine ⟨hn, hc, hm, fun i x hi => ⟨g, 0, rfl, (Array.getElem?_eq_some_iff.1 h).1, fun j u hu => ?_⟩, hok⟩
  have hj : j < size := by have := (List.getElem?_eq_some_iff.1 hu).1; rw [hs] at this; exact this
  rw [cell_of_row w _ _ _ _ _ h, ← Array.getElem?_toList, hcs, Nat.zero_add, flatMap_at hs l i x hi j hj, hu]
theorem Comes.nil {α : Type} (w : World) (size : Nat) (encA : α → List Value) (okA : α → Prop) : Comes w size encA okA none 0 0 ([] : List α) :=
  ⟨rfl, Nat.le_refl _, Nat.zero_le _, Lies.nil, fun x hx => by simp at hx⟩
theorem own_later {w w' : World} {base n size : Nat} {e : TypeId} {v : Value} {xs : List Value} (h : w.ownsRow base e size v n xs) (hb : Below w.heap.size w w') : w'.ownsRow base e size v n xs :=
  h.kept (row := none) ⟨hb.os, hb.tape, hb.output, hb.size, fun k hk _ => hb.block k hk⟩ (by cases hv : v.ownBlock <;> simp)
theorem Comes.later {α : Type} {w w' : World} {size : Nat} {encA : α → List Value} {okA : α → Prop} {A : Option Addr} {n c : Nat} {l : List α} (h : Comes w size encA okA A n c l) (hb : Below w.heap.size w w') : Comes w' size encA okA A n c l :=
  ⟨h.len, h.le, h.cap, h.lies.later hb, h.ok⟩
/-- What the call made, for those that it hands it on to. -/
theorem Comes.of_own {α : Type} {w : World} {size base n : Nat} {e : TypeId} {v : Value} {encA : α → List Value} {okA : α → Prop} {l : List α} (h : w.ownsRow base e size v n (l.flatMap encA)) (hs : ∀ x, (encA x).length = size) (h0 : 0 < size) (hok : ∀ x ∈ l, okA x) :
    ∃ A c, v = .slice A n c ∧ n = l.length ∧ Comes w size encA okA A n c l := by
  rcases h.2 with ⟨hv, hn⟩ | ⟨g, cap, cur, hv, _, _, hnc, hcm, _, _⟩
  · subst hv hn
    obtain ⟨h1, h2⟩ := Lies.of_own (l := l) (enc := encA) h hs h0
    exact ⟨none, 0, rfl, h2, h2.symm, Nat.le_refl _, Nat.zero_le _, h1, hok⟩
  · subst hv
    obtain ⟨h1, h2⟩ := Lies.of_own (l := l) (enc := encA) h hs h0
    exact ⟨_, cap, rfl, h2, h2.symm, hnc, hcm, h1, hok⟩
end Go.Proofs.Ytdjgndnllaingaa
/-
  label.Get, alluviumref06.Get: THE WALKS.
-/
namespace Go.Proofs.Ytdjgndnllaingaa.LabW
open Go.RowKit Go.Shelf LabM
def encL (x : Lab) : List Value := [.string x.1, .string x.2]
def okL (x : Lab) : Prop := x.1.size ≤ maxLen ∧ x.2.size ≤ maxLen
theorem lab_cells {w : World} {A : Option Addr} {l : List Lab} (h : Lies w w.heap.size 2 encL A l) {k : Nat} (hk : k < l.length) :
    ∃ b o, A = some ⟨b, o, none⟩ ∧ ∀ W, Below w.heap.size w W → W.cell? ⟨b, o + k * 2, none⟩ = some (.string l[k].1) ∧ W.cell? ⟨b, o + k * 2 + 1, none⟩ = some (.string l[k].2) := by
  obtain ⟨b, o, hA, _, hc⟩ := h.all hk
  exact ⟨b, o, hA, fun W hW => ⟨hc W hW 0 _ rfl, hc W hW 1 _ rfl⟩⟩
set_option maxHeartbeats 1000000 in
theorem get_any (A : Option Addr) (n c : Nat) (l : List Lab) (nm : ByteArray) (w : World) (hl : Comes w 2 encL okL A n c l) :
    Calls Try.prog 73 #[.slice A n c, .string nm] w fun e w' => e = .returned (.string (getL l nm)) ∧ Below w.heap.size w w' := by
  have HL := Lib.hid hl
  have hcap : c ≤ 9223372036854775807 := hl.cap
  have hle := hl.le
  clear hl
  go_enter Try.func73, Try.ntmps73
  go_wp2_with fail
  go_loopw [9] (fun v9 wr => ∃ k : Nat, k ≤ n ∧ v9 = .int .i64 k ∧ getL l nm = getL (l.drop k) nm ∧ Below w.heap.size w wr) (fun v9 _ => n - (intOf v9).toNat)
  case atStart => exact ⟨0, Nat.zero_le _, rfl, rfl, Below.refl _ _⟩
  case round =>
    obtain ⟨k, hk, rfl, hg, ho⟩ := hrel
    have hln := HL.out.len
    by_cases hlt : k < n
    · have hkl : k < l.length := by omega
      obtain ⟨b, o, rfl, hcs⟩ := lab_cells HL.out.lies hkl
      obtain ⟨hc0, hc1⟩ := hcs _ ho
      rw [getL_at l nm k hkl] at hg
      generalize l[k] = x at *
      obtain ⟨x1, x2⟩ := x
      simp only [] at hc0 hc1 hg
      have HO := Lib.hid ho
      have HG := Lib.hid hg
      clear ho hln hcs hg
      go_wp2_with fail
      · have ht : (x1.toList == nm.toList) = true := by assumption
        go_ret
        have hg := HG.out
        rw [if_pos ht] at hg
        exact ⟨by rw [hg]; rfl, HO.out.alloc HO.out.size _⟩
      · have ht : (x1.toList == nm.toList) = false := by assumption
        have hg := HG.out
        rw [if_neg (by rw [ht]; decide)] at hg
        go_roundw
        case rel => exact ⟨k + 1, by omega, by go_num, hg, HO.out.alloc HO.out.size _⟩
        case measure => simp [intOf]; omega
    · obtain rfl : k = n := by omega
      rw [getL_end l nm k (by omega)] at hg
      have HO := Lib.hid ho
      have HG := Lib.hid hg
      clear ho hg
      go_wp2_with fail
      go_ret
      exact ⟨by rw [HG.out]; rfl, HO.out⟩
end Go.Proofs.Ytdjgndnllaingaa.LabW
