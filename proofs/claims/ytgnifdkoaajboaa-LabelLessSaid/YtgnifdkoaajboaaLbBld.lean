/-
  strings.Builder: copyCheck, WriteString, WriteByte, String: WHAT A BUILDER OF THE CALL'S OWN HOLDS.
-/
import Derived.Test.YtgnifdkoaajboaaLbNum
import Derived.Test.YtgnifdkoaajboaaLibTab
import Derived.Test.YtgnifdkoaajboaaMem
import Derived.Test.YtgnifdkoaajboaaLbMath
import Derived.WalkKit
import Derived.Laws.Externs
namespace Go.Proofs.Ytgnifdkoaajboaa.FrW
set_option linter.unusedVariables false
open Go.RowKit FrM
/-- A builder in the block b, of the call's own blocks (from B on), that holds these bytes. -/
def Bd (B b : Nat) (l : List UInt8) (w : World) : Prop := Lib.IsBuilder 46 5 B b (Lib.byteCells l) w
theorem builderAt_later {B b : Nat} {p : Value} {bs : List Value} {w w' : World} (h : Lib.BuilderAt 46 5 B b p bs w) (hb : Below w.heap.size w w') : Lib.BuilderAt 46 5 B b p bs w' := by
  have hlt := h.lt
  obtain ⟨hB, v, h1, h2, h3⟩ := h
  exact ⟨hB, v, (hb.block _ hlt).trans h1, own_later h2 hb, h3⟩
theorem Bd.later {B b : Nat} {l : List UInt8} {w w' : World} (h : Bd B b l w) (hb : Below w.heap.size w w') : Bd B b l w' := by
  rcases h with h | h
  · exact .inl (builderAt_later h hb)
  · exact .inr (builderAt_later h hb)
theorem Bd.fresh (w : World) : Bd w.heap.size w.heap.size [] (w.alloc (.cells #[.pointer none, .slice none 0 0] 46 (0, 0))) := Lib.fresh_isBuilder _ _ w
theorem Bd.lt {B b : Nat} {l : List UInt8} {w : World} (h : Bd B b l w) : b < w.heap.size := by
  rcases h with h | h
  · exact h.lt
  · exact h.lt
/-- What a write leaves of other blocks: all but its own and rows of bytes. -/
def Keeps (b : Nat) (w w' : World) : Prop := ∀ (g : Nat) (cs : Array Value) (T : TypeId), g ≠ b → T ≠ 5 → w.heap[g]? = some (.cells cs T (0, 0)) → w'.heap[g]? = some (.cells cs T (0, 0))
theorem Keeps.trans {b : Nat} {w w1 w2 : World} (h : Keeps b w w1) (k : Keeps b w1 w2) : Keeps b w w2 := fun g cs T hg hT hc => k g cs T hg hT (h g cs T hg hT hc)
theorem Keeps.refl (b : Nat) (w : World) : Keeps b w w := fun _ _ _ _ _ hc => hc
theorem Keeps.of_below {b : Nat} {w w' : World} (h : Below w.heap.size w w') : Keeps b w w' := fun g cs T _ _ hc => (h.block _ (Array.getElem?_eq_some_iff.1 hc).1).trans hc
theorem noEscape_any (x : Value) (w : World) : (callFunc 55 #[x]).run Try.prog w = .ok (.value x) w := by
  rw [run_callFunc_extern Try.func55 (by kernel_rfl) (by kernel_rfl) (by kernel_rfl) (e := Extern.AbiNoEscape.same) (by kernel_rfl), Lib.run_noEscape]
  rfl
theorem sizeBd : (Try.prog.info? 46).map (·.size) = some 2 := by kernel_rfl
theorem liesBd : liesAt Try.prog Try.prog.depth 46 (2 / Try.prog.cellsOf 46) 0 46 1 = true := by kernel_rfl
set_option maxRecDepth 20000 in
theorem cc_used (b : Nat) (w : World) (h0 : w.cell? ⟨b, 0, none⟩ = some (.pointer (some ⟨b, 0, none⟩))) :
    Calls Try.prog 47 #[.pointer (some ⟨b, 0, none⟩)] w fun e w' => e = .returned (.tuple #[]) ∧ w' = w := by
  obtain ⟨j, hj, _⟩ := Option.map_eq_some_iff.1 sizeBd
  have hne := Lib.run_neq_ptr_same (P := Try.prog) w ⟨b, 0, none⟩ Try.underlying44 hj
  go_enter Try.func47, Try.ntmps47
  go_wp2
  go_end0
  exact ⟨rfl, rfl⟩
set_option maxRecDepth 20000 in
theorem cc_fresh (b : Nat) (w : World) (h0 : w.cell? ⟨b, 0, none⟩ = some (.pointer none)) (hsh : w.shape? b = some (46, 2)) (hfz : w.frozen? ⟨b, 0, none⟩ = false) :
    Calls Try.prog 47 #[.pointer (some ⟨b, 0, none⟩)] w fun e w' => e = .returned (.tuple #[]) ∧ w' = w.setCell ⟨b, 0, none⟩ (.pointer (some ⟨b, 0, none⟩)) := by
  obtain ⟨j, hj, hjs⟩ := Option.map_eq_some_iff.1 sizeBd
  have h1 := Lib.run_to_unsafe (P := Try.prog) w ⟨b, 0, none⟩ Try.underlying44 Try.underlying74 hj (by rw [hjs]; decide) hsh (Nat.zero_lt_succ 1)
  have h2 := noEscape_any (.pointer (some ⟨b, 0, none⟩)) w
  have h3 := Lib.run_from_unsafe (P := Try.prog) w ⟨b, 0, none⟩ Try.underlying74 Try.underlying44 hj hsh liesBd
  go_enter Try.func47, Try.ntmps47
  go_wp2
  go_end0
  exact ⟨rfl, rfl⟩
theorem cc_any (B b : Nat) (l : List Value) (w : World) (h : Lib.IsBuilder 46 5 B b l w) :
    Calls Try.prog 47 #[.pointer (some ⟨b, 0, none⟩)] w fun e w' => e = .returned (.tuple #[]) ∧ Lib.BuilderAt 46 5 B b (.pointer (some ⟨b, 0, none⟩)) l w' ∧ Below B w w' ∧ Keeps b w w' := by
  rcases h with h | h
  · refine (cc_fresh b w h.cell0 h.shape h.frozen0).mono ?_
    rintro e w' ⟨rfl, rfl⟩
    exact ⟨rfl, h.used _, (Below.refl B w).setCell (p := ⟨b, 0, none⟩) h.1 _, fun g cs T hg hT hc => (Below.heap_setCell _ _ _ _ hg).trans hc⟩
  · refine (cc_used b w h.cell0).mono ?_
    rintro e w' ⟨rfl, rfl⟩
    exact ⟨rfl, h, Below.refl B _, Keeps.refl _ _⟩
theorem elemU8 : Elem Try.prog 5 (.int .u8 0) 1 1 := by unfold Elem; kernel_rfl
theorem own_slice {W : World} {B n : Nat} {e : TypeId} {v : Value} {xs : List Value} (h : W.ownsRow B e 1 v n xs) : ∃ ao n' cap, v = .slice ao n' cap := by
  rcases h.2 with ⟨hv, _⟩ | ⟨g, cap, cur, hv, _⟩
  · exact ⟨_, _, _, hv⟩
  · exact ⟨_, _, _, hv⟩
theorem put_facts {w w1 w2 : World} {B b n' cap : Nat} {ao : Option Addr} {v : Value} {l m : List UInt8} (hB : B ≤ b) (hbk : w1.heap[b]? = some (.cells #[.pointer (some ⟨b, 0, none⟩), v] 46 (0, 0)))
    (hown : w1.ownsRow B 5 1 v (Lib.byteCells l).length (Lib.byteCells l)) (hne : v.ownBlock ≠ some b) (hb1 : Below B w w1) (hbz : B ≤ w1.heap.size) (hkk : Keeps b w w1) (hgrow : w1.grownBy w2 v.ownBlock)
    (hown' : w2.ownsRow B 5 1 (.slice ao n' cap) ((Lib.byteCells l).length + m.length) (Lib.byteCells l ++ Lib.byteCells m)) :
    w2.cell? ⟨b, 0, none⟩ = some (.pointer (some ⟨b, 0, none⟩)) ∧ w2.cell? ⟨b, 1, none⟩ = some v ∧ w2.frozen? ⟨b, 1, none⟩ = false ∧
      Hid (Lib.BuilderAt 46 5 B b (.pointer (some ⟨b, 0, none⟩)) (Lib.byteCells (l ++ m)) (w2.setCell ⟨b, 1, none⟩ (.slice ao n' cap)) ∧ Below B w (w2.setCell ⟨b, 1, none⟩ (.slice ao n' cap)) ∧ Keeps b w (w2.setCell ⟨b, 1, none⟩ (.slice ao n' cap))) := by
  have hlt : b < w1.heap.size := (Array.getElem?_eq_some_iff.1 hbk).1
  have hb2 : w2.heap[b]? = some (.cells #[.pointer (some ⟨b, 0, none⟩), v] 46 (0, 0)) := by
    rw [hgrow.block b hlt (fun e => hne e.symm)]; exact hbk
  refine ⟨by rw [Lib.cell_of_heap hb2]; rfl, by rw [Lib.cell_of_heap hb2]; rfl, Lib.frozen_of_heap hb2 1, Lib.hid ⟨?_, ?_, ?_⟩⟩
  · refine Lib.BuilderAt.put (T := 46) (e := 5) hB hb2 ?_ (by decide)
    have e1 : Lib.byteCells (l ++ m) = Lib.byteCells l ++ Lib.byteCells m := by simp [Lib.byteCells]
    rw [e1, List.length_append, Lib.byteCells_length m]
    exact hown'
  · exact (hb1.grown hgrow hbz (fun k hk => (hown.lt k hk).1)).setCell (p := ⟨b, 1, none⟩) hB _
  · intro g cs T hg hT hc
    have h1 := hkk g cs T hg hT hc
    rw [Below.heap_setCell _ _ _ _ hg, hgrow.block g (Array.getElem?_eq_some_iff.1 h1).1 (fun e => ?_)]
    · exact h1
    · rcases hown.2 with ⟨hv, _⟩ | ⟨g2, cap2, cur2, hv, _, hg2, _⟩
      · rw [hv] at e; simp [Value.ownBlock] at e
      · rw [hv] at e
        simp only [Value.ownBlock, Option.some.injEq] at e
        rw [e, hg2] at h1
        injection h1 with h1
        injection h1 with h1 h2 h3
        exact hT h2.symm
theorem put_facts1 {w w1 w2 : World} {B b n' cap : Nat} {ao : Option Addr} {v : Value} {l : List UInt8} {c : UInt8} {x : Int} (hB : B ≤ b) (hbk : w1.heap[b]? = some (.cells #[.pointer (some ⟨b, 0, none⟩), v] 46 (0, 0)))
    (hown : w1.ownsRow B 5 1 v (Lib.byteCells l).length (Lib.byteCells l)) (hne : v.ownBlock ≠ some b) (hb1 : Below B w w1) (hbz : B ≤ w1.heap.size) (hkk : Keeps b w w1) (hgrow : (w1.alloc (.cells #[.int .u8 x] 5 (0, 0))).grownBy w2 v.ownBlock)
    (hown' : w2.ownsRow B 5 1 (.slice ao n' cap) ((Lib.byteCells l).length + 1) (Lib.byteCells l ++ [.int .u8 (c.toNat : Int)])) :
    w2.cell? ⟨b, 0, none⟩ = some (.pointer (some ⟨b, 0, none⟩)) ∧ w2.cell? ⟨b, 1, none⟩ = some v ∧ w2.frozen? ⟨b, 1, none⟩ = false ∧
      Hid (Lib.BuilderAt 46 5 B b (.pointer (some ⟨b, 0, none⟩)) (Lib.byteCells (l ++ [c])) (w2.setCell ⟨b, 1, none⟩ (.slice ao n' cap)) ∧ Below B w (w2.setCell ⟨b, 1, none⟩ (.slice ao n' cap)) ∧ Keeps b w (w2.setCell ⟨b, 1, none⟩ (.slice ao n' cap))) :=
  put_facts (w := w) (m := [c]) hB ((Lib.alloc_old w1 _ b (Array.getElem?_eq_some_iff.1 hbk).1).trans hbk) (hown.alloc _) hne (hb1.alloc hbz _) (by simp; omega) (hkk.trans (Keeps.of_below ((Below.refl _ _).alloc (Nat.le_refl _) _))) hgrow hown'
theorem alloc_one (w : World) (x : Int) : ∀ j u, ([.int .u8 x] : List Value)[j]? = some u → (w.alloc (.cells #[.int .u8 x] 5 (0, 0))).cell? ((⟨w.heap.size, 0, none⟩ : Addr).add j) = some u := by
  intro j u hj
  match j, hj with
  | 0, hj => simp at hj; subst hj; simp [Addr.add]
theorem one_cell (x : Int) : ∀ u ∈ ([.int .u8 x] : List Value), u.oneCell' = true := by
  intro u hu; simp at hu; subst hu; rfl
/-- WriteString. -/
theorem writes_any (B b : Nat) (l m : List UInt8) (w : World) (h : Bd B b l w) (hlen : l.length + m.length ≤ 140737488355328) (hBw : B ≤ w.heap.size) :
    Calls Try.prog 36 #[.pointer (some ⟨b, 0, none⟩), .string (bs m)] w fun e w' => e = .returned (.tuple #[.int .i64 (m.length : Int), .nilIface]) ∧ Bd B b (l ++ m) w' ∧ Below B w w' ∧ Keeps b w w' := by
  obtain ⟨i0, hi, hz0, hz1, hz2⟩ := info_parts elemU8
  have hm := bs_size m
  have hsc : Lib.strCells (bs m) = Lib.byteCells m := rfl
  have hll : (Lib.byteCells l).length = l.length := Lib.byteCells_length l
  go_enter Try.func36, Try.ntmps36
  go_wp2_with fail
  refine (cc_any B b _ _ h).mono ?_
  rintro e w1 ⟨rfl, h1, hb1, hk1⟩
  obtain ⟨hB, v, hbk, hown, hne⟩ := h1
  have c0 : w1.cell? ⟨b, 0, none⟩ = some (.pointer (some ⟨b, 0, none⟩)) := by rw [Lib.cell_of_heap hbk]; rfl
  have c1 : w1.cell? ⟨b, 1, none⟩ = some v := by rw [Lib.cell_of_heap hbk]; rfl
  have hbz : B ≤ w1.heap.size := Nat.le_trans hBw hb1.size
  go_wp2_with (at_builtin; go_must (refine Lib.wpList_append_own_string (P := Try.prog) _ rfl _ _ 42 9 rfl B 5 i0 Try.underlying42 Try.underlying9 hi hz0 hz1 hz2 v _ _ rfl hown (bs m) rfl (by unfold maxLen; omega) (by omega) hbz ?_); intro v' w2 hown' hgrow _; obtain ⟨ao, n', cap, rfl⟩ := own_slice hown'; obtain ⟨d0, d1, f1, HF⟩ := put_facts hB hbk hown hne hb1 hbz hk1 hgrow (m := m) (by rw [hm] at hown'; exact hown'); clear hown hown' hgrow hbk hb1 hne)
  go_wp2
  go_ret2
  exact ⟨rfl, .inr HF.out.1, HF.out.2.1, HF.out.2.2⟩
/-- WriteByte. -/
theorem writeb_any (B b : Nat) (l : List UInt8) (c : UInt8) (w : World) (h : Bd B b l w) (hlen : l.length + 1 ≤ 140737488355328) (hBw : B ≤ w.heap.size) :
    Calls Try.prog 40 #[.pointer (some ⟨b, 0, none⟩), .int .u8 (c.toNat : Int)] w fun e w' => e = .returned .nilIface ∧ Bd B b (l ++ [c]) w' ∧ Below B w w' ∧ Keeps b w w' := by
  have hll : (Lib.byteCells l).length = l.length := Lib.byteCells_length l
  obtain ⟨i0, hi, hz0, hz1, hz2⟩ := info_parts elemU8
  obtain ⟨x, hx⟩ : ∃ x, (c.toNat : Int) = x := ⟨_, rfl⟩
  rw [hx]
  go_enter Try.func40, Try.ntmps40
  go_wp2_with fail
  refine (cc_any B b _ _ h).mono ?_
  rintro e w1 ⟨rfl, h1, hb1, hk1⟩
  obtain ⟨hB, v, hbk, hown, hne⟩ := h1
  have c0 : w1.cell? ⟨b, 0, none⟩ = some (.pointer (some ⟨b, 0, none⟩)) := by rw [Lib.cell_of_heap hbk]; rfl
  have c1 : w1.cell? ⟨b, 1, none⟩ = some v := by rw [Lib.cell_of_heap hbk]; rfl
  have hbz : B ≤ w1.heap.size := Nat.le_trans hBw hb1.size
  go_wp2_with (at_builtin; go_must (refine wpList_append_own (P := Try.prog) (w := w1.alloc (.cells #[.int .u8 x] 5 (0, 0))) rfl _ _ 42 rfl B 5 i0 (.int .u8 0) 1 1 Try.underlying42 hi hz0 hz1 hz2 rfl (by decide) v _ _ rfl (hown.alloc _) ⟨w1.heap.size, 0, none⟩ 1 1 [.int .u8 x] rfl rfl (alloc_one w1 x) (one_cell x) (by unfold maxLen; omega) (by omega) (by simp; omega) ?_); intro v' w2 hown' hgrow _; obtain ⟨ao, n', cap, rfl⟩ := own_slice hown'; obtain ⟨d0, d1, f1, HF⟩ := put_facts1 hB hbk hown hne hb1 hbz hk1 hgrow (c := c) (by rw [hx]; exact hown'); clear hown hown' hgrow hbk hb1 hne)
  go_wp2
  go_ret
  exact ⟨rfl, .inr HF.out.1, HF.out.2.1, HF.out.2.2⟩
/-- String. -/
theorem bstring_any (B b : Nat) (l : List UInt8) (w : World) (h : Bd B b l w) (hBw : B ≤ w.heap.size) :
    Calls Try.prog 38 #[.pointer (some ⟨b, 0, none⟩)] w fun e w' => e = .returned (.string (bs l)) ∧ Below B w w' :=
  Any.Builder_String_any Try.lays169 Try.Builder_Extra_169 B b l w h hBw
end Go.Proofs.Ytgnifdkoaajboaa.FrW
