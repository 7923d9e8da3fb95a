/-
  strings.Builder: copyCheck, WriteString, WriteByte, String: WHAT A BUILDER OF THE CALL'S OWN HOLDS.
  label.Key: THE WALK.
  alluviumref03.Small, Text; alluviumref06.Key: THE WALKS.
  alluviumref06.Key: THE WALK.
  alluviumref06.Ahead, Right, Longest, Same; label.Less, Same, Longest, Limit: THE WALKS.
-/
import Derived.Test.YtdjgndnllaingaaJ09
import Derived.Test.YtdjgndnllaingaaJ05
import Derived.Test.YtdjgndnllaingaaJ03
import Derived.WalkKit
import Derived.Laws.Externs
import Derived.Deep.RegionHeld3
import Derived.Test.YtdjgndnllaingaaJ08
/-
  strings.Builder: copyCheck, WriteString, WriteByte, String: WHAT A BUILDER OF THE CALL'S OWN HOLDS.
-/
namespace Go.Proofs.Ytdjgndnllaingaa.FrW
set_option linter.unusedVariables false
open Go.RowKit FrM
/-- A builder in the block b, of the call's own blocks (from B on), that holds these bytes. -/
def Bd (B b : Nat) (l : List UInt8) (w : World) : Prop := Lib.IsBuilder 112 5 B b (Lib.byteCells l) w
theorem builderAt_later {B b : Nat} {p : Value} {bs : List Value} {w w' : World} (h : Lib.BuilderAt 112 5 B b p bs w) (hb : Below w.heap.size w w') : Lib.BuilderAt 112 5 B b p bs w' := by
  have hlt := h.lt
  obtain ⟨hB, v, h1, h2, h3⟩ := h
  exact ⟨hB, v, (hb.block _ hlt).trans h1, own_later h2 hb, h3⟩
theorem Bd.later {B b : Nat} {l : List UInt8} {w w' : World} (h : Bd B b l w) (hb : Below w.heap.size w w') : Bd B b l w' := by
  rcases h with h | h
  · exact .inl (builderAt_later h hb)
  · exact .inr (builderAt_later h hb)
theorem Bd.fresh (w : World) : Bd w.heap.size w.heap.size [] (w.alloc (.cells #[.pointer none, .slice none 0 0] 112 (0, 0))) := Lib.fresh_isBuilder _ _ w
theorem Bd.lt {B b : Nat} {l : List UInt8} {w : World} (h : Bd B b l w) : b < w.heap.size := by
  rcases h with h | h
  · exact h.lt
  · exact h.lt
/-- What a write leaves of other blocks: all but its own and rows of bytes. -/
def Keeps (b : Nat) (w w' : World) : Prop := ∀ (g : Nat) (cs : Array Value) (T : TypeId), g ≠ b → T ≠ 5 → w.heap[g]? = some (.cells cs T (0, 0)) → w'.heap[g]? = some (.cells cs T (0, 0))
theorem Keeps.trans {b : Nat} {w w1 w2 : World} (h : Keeps b w w1) (k : Keeps b w1 w2) : Keeps b w w2 := fun g cs T hg hT hc => k g cs T hg hT (h g cs T hg hT hc)
theorem Keeps.refl (b : Nat) (w : World) : Keeps b w w := fun _ _ _ _ _ hc => hc
theorem Keeps.of_below {b : Nat} {w w' : World} (h : Below w.heap.size w w') : Keeps b w w' := fun g cs T _ _ hc => (h.block _ (Array.getElem?_eq_some_iff.1 hc).1).trans hc
theorem noEscape_any (x : Value) (w : World) : (callFunc 82 #[x]).run Try.prog w = .ok (.value x) w := by
  rw [run_callFunc_extern Try.func82 (by kernel_rfl) (by kernel_rfl) (by kernel_rfl) (e := Extern.AbiNoEscape.same) (by kernel_rfl), Lib.run_noEscape]
  rfl
theorem sizeBd : (Try.prog.info? 112).map (·.size) = some 2 := by kernel_rfl
theorem liesBd : liesAt Try.prog Try.prog.depth 112 (2 / Try.prog.cellsOf 112) 0 112 1 = true := by kernel_rfl
set_option maxRecDepth 20000 in
theorem cc_used (b : Nat) (w : World) (h0 : w.cell? ⟨b, 0, none⟩ = some (.pointer (some ⟨b, 0, none⟩))) :
    Calls Try.prog 77 #[.pointer (some ⟨b, 0, none⟩)] w fun e w' => e = .returned (.tuple #[]) ∧ w' = w := by
  obtain ⟨j, hj, _⟩ := Option.map_eq_some_iff.1 sizeBd
  have hne := Lib.run_neq_ptr_same (P := Try.prog) w ⟨b, 0, none⟩ Try.underlying109 hj
  go_enter Try.func77, Try.ntmps77
  go_wp2
  go_end0
  exact ⟨rfl, rfl⟩
set_option maxRecDepth 20000 in
theorem cc_fresh (b : Nat) (w : World) (h0 : w.cell? ⟨b, 0, none⟩ = some (.pointer none)) (hsh : w.shape? b = some (112, 2)) (hfz : w.frozen? ⟨b, 0, none⟩ = false) :
    Calls Try.prog 77 #[.pointer (some ⟨b, 0, none⟩)] w fun e w' => e = .returned (.tuple #[]) ∧ w' = w.setCell ⟨b, 0, none⟩ (.pointer (some ⟨b, 0, none⟩)) := by
  obtain ⟨j, hj, hjs⟩ := Option.map_eq_some_iff.1 sizeBd
  have h1 := Lib.run_to_unsafe (P := Try.prog) w ⟨b, 0, none⟩ Try.underlying109 Try.underlying130 hj (by rw [hjs]; decide) hsh (Nat.zero_lt_succ 1)
  have h2 := noEscape_any (.pointer (some ⟨b, 0, none⟩)) w
  have h3 := Lib.run_from_unsafe (P := Try.prog) w ⟨b, 0, none⟩ Try.underlying130 Try.underlying109 hj hsh liesBd
  go_enter Try.func77, Try.ntmps77
  go_wp2
  go_end0
  exact ⟨rfl, rfl⟩
theorem cc_any (B b : Nat) (l : List Value) (w : World) (h : Lib.IsBuilder 112 5 B b l w) :
    Calls Try.prog 77 #[.pointer (some ⟨b, 0, none⟩)] w fun e w' => e = .returned (.tuple #[]) ∧ Lib.BuilderAt 112 5 B b (.pointer (some ⟨b, 0, none⟩)) l w' ∧ Below B w w' ∧ Keeps b w w' := by
  rcases h with h | h
  · refine (cc_fresh b w h.cell0 h.shape h.frozen0).mono ?_
    rintro e w' ⟨rfl, rfl⟩
    exact ⟨rfl, h.used _, (Below.refl B w).setCell (p := ⟨b, 0, none⟩) h.1 _, fun g cs T hg hT hc => (Below.heap_setCell _ _ _ _ hg).trans hc⟩
  · refine (cc_used b w h.cell0).mono ?_
    rintro e w' ⟨rfl, rfl⟩
    exact ⟨rfl, h, Below.refl B _, Keeps.refl _ _⟩
theorem elemU8 : Elem Try.prog 5 (.int .u8 0) 1 1 := by unfold Elem; kernel_rfl
theorem own_slice {W : World} {B n : Nat} {e : TypeId} {v : Value} {xs : List Value} (h : W.ownsRow B e 1 v n xs) : ∃ ao n' cap, v = .slice ao n' cap := by
  rcases h.2 with ⟨hv, _⟩ | ⟨g, cap, cur, hv, _⟩
  · exact ⟨_, _, _, hv⟩
  · exact ⟨_, _, _, hv⟩
theorem put_facts {w w1 w2 : World} {B b n' cap : Nat} {ao : Option Addr} {v : Value} {l m : List UInt8} (hB : B ≤ b) (hbk : w1.heap[b]? = some (.cells #[.pointer (some ⟨b, 0, none⟩), v] 112 (0, 0)))
    (hown : w1.ownsRow B 5 1 v (Lib.byteCells l).length (Lib.byteCells l)) (hne : v.ownBlock ≠ some b) (hb1 : Below B w w1) (hbz : B ≤ w1.heap.size) (hkk : Keeps b w w1) (hgrow : w1.grownBy w2 v.ownBlock)
    (hown' : w2.ownsRow B 5 1 (.slice ao n' cap) ((Lib.byteCells l).length + m.length) (Lib.byteCells l ++ Lib.byteCells m)) :
    w2.cell? ⟨b, 0, none⟩ = some (.pointer (some ⟨b, 0, none⟩)) ∧ w2.cell? ⟨b, 1, none⟩ = some v ∧ w2.frozen? ⟨b, 1, none⟩ = false ∧
      Hid (Lib.BuilderAt 112 5 B b (.pointer (some ⟨b, 0, none⟩)) (Lib.byteCells (l ++ m)) (w2.setCell ⟨b, 1, none⟩ (.slice ao n' cap)) ∧ Below B w (w2.setCell ⟨b, 1, none⟩ (.slice ao n' cap)) ∧ Keeps b w (w2.setCell ⟨b, 1, none⟩ (.slice ao n' cap))) := by
  have hlt : b < w1.heap.size := (Array.getElem?_eq_some_iff.1 hbk).1
  have hb2 : w2.heap[b]? = some (.cells #[.pointer (some ⟨b, 0, none⟩), v] 112 (0, 0)) := by
    rw [hgrow.block b hlt (fun e => hne e.symm)]; exact hbk
  refine ⟨by rw [Lib.cell_of_heap hb2]; rfl, by rw [Lib.cell_of_heap hb2]; rfl, Lib.frozen_of_heap hb2 1, Lib.hid ⟨?_, ?_, ?_⟩⟩
  · refine Lib.BuilderAt.put (T := 112) (e := 5) hB hb2 ?_ (by decide)
    have e1 : Lib.byteCells (l ++ m) = Lib.byteCells l ++ Lib.byteCells m := by simp [Lib.byteCells]
    rw [e1, List.length_append, Lib.byteCells_length m]
    exact hown'
  · exact (hb1.grown hgrow hbz (fun k hk => (hown.lt k hk).1)).setCell (p := ⟨b, 1, none⟩) hB _
  · intro g cs T hg hT hc
    have h1 := hkk g cs T hg hT hc
    rw [Below.heap_setCell _ _ _ _ hg, hgrow.block g (Array.getElem?_eq_some_iff.1 h1).1 (fun e => ?_)]
    · exact h1
    · rcases hown.2 with ⟨hv, _⟩ | ⟨g2, cap2, cur2, hv, _, hg2, _⟩
      · rw [hv] at e; simp [Value.ownBlock] at e
      · rw [hv] at e
        simp only [Value.ownBlock, Option.some.injEq] at e
        rw [e, hg2] at h1
        injection h1 with h1
        injection h1 with h1 h2 h3
        exact hT h2.symm
theorem put_facts1 {w w1 w2 : World} {B b n' cap : Nat} {ao : Option Addr} {v : Value} {l : List UInt8} {c : UInt8} {x : Int} (hB : B ≤ b) (hbk : w1.heap[b]? = some (.cells #[.pointer (some ⟨b, 0, none⟩), v] 112 (0, 0)))
    (hown : w1.ownsRow B 5 1 v (Lib.byteCells l).length (Lib.byteCells l)) (hne : v.ownBlock ≠ some b) (hb1 : Below B w w1) (hbz : B ≤ w1.heap.size) (hkk : Keeps b w w1) (hgrow : (w1.alloc (.cells #[.int .u8 x] 5 (0, 0))).grownBy w2 v.ownBlock)
    (hown' : w2.ownsRow B 5 1 (.slice ao n' cap) ((Lib.byteCells l).length + 1) (Lib.byteCells l ++ [.int .u8 (c.toNat : Int)])) :
    w2.cell? ⟨b, 0, none⟩ = some (.pointer (some ⟨b, 0, none⟩)) ∧ w2.cell? ⟨b, 1, none⟩ = some v ∧ w2.frozen? ⟨b, 1, none⟩ = false ∧
      Hid (Lib.BuilderAt 112 5 B b (.pointer (some ⟨b, 0, none⟩)) (Lib.byteCells (l ++ [c])) (w2.setCell ⟨b, 1, none⟩ (.slice ao n' cap)) ∧ Below B w (w2.setCell ⟨b, 1, none⟩ (.slice ao n' cap)) ∧ Keeps b w (w2.setCell ⟨b, 1, none⟩ (.slice ao n' cap))) :=
  put_facts (w := w) (m := [c]) hB ((Lib.alloc_old w1 _ b (Array.getElem?_eq_some_iff.1 hbk).1).trans hbk) (hown.alloc _) hne (hb1.alloc hbz _) (by simp; omega) (hkk.trans (Keeps.of_below ((Below.refl _ _).alloc (Nat.le_refl _) _))) hgrow hown'
theorem alloc_one (w : World) (x : Int) : ∀ j u, ([.int .u8 x] : List Value)[j]? = some u → (w.alloc (.cells #[.int .u8 x] 5 (0, 0))).cell? ((⟨w.heap.size, 0, none⟩ : Addr).add j) = some u := by
  intro j u hj
  match j, hj with
  | 0, hj => simp at hj; subst hj; simp [Addr.add]
theorem one_cell (x : Int) : ∀ u ∈ ([.int .u8 x] : List Value), u.oneCell' = true := by
  intro u hu; simp at hu; subst hu; rfl
/-- WriteString. -/
theorem writes_any (B b : Nat) (l m : List UInt8) (w : World) (h : Bd B b l w) (hlen : l.length + m.length ≤ 140737488355328) (hBw : B ≤ w.heap.size) :
    Calls Try.prog 65 #[.pointer (some ⟨b, 0, none⟩), .string (bs m)] w fun e w' => e = .returned (.tuple #[.int .i64 (m.length : Int), .nilIface]) ∧ Bd B b (l ++ m) w' ∧ Below B w w' ∧ Keeps b w w' := by
  obtain ⟨i0, hi, hz0, hz1, hz2⟩ := info_parts elemU8
  have hm := bs_size m
  have hsc : Lib.strCells (bs m) = Lib.byteCells m := rfl
  have hll : (Lib.byteCells l).length = l.length := Lib.byteCells_length l
  go_enter Try.func65, Try.ntmps65
  go_wp2_with fail
  refine (cc_any B b _ _ h).mono ?_
  rintro e w1 ⟨rfl, h1, hb1, hk1⟩
  obtain ⟨hB, v, hbk, hown, hne⟩ := h1
  have c0 : w1.cell? ⟨b, 0, none⟩ = some (.pointer (some ⟨b, 0, none⟩)) := by rw [Lib.cell_of_heap hbk]; rfl
  have c1 : w1.cell? ⟨b, 1, none⟩ = some v := by rw [Lib.cell_of_heap hbk]; rfl
  have hbz : B ≤ w1.heap.size := Nat.le_trans hBw hb1.size
  go_wp2_with (at_builtin; go_must (refine Lib.wpList_append_own_string (P := Try.prog) _ rfl _ _ 110 9 rfl B 5 i0 Try.underlying110 Try.underlying9 hi hz0 hz1 hz2 v _ _ rfl hown (bs m) rfl (by unfold maxLen; omega) (by omega) hbz ?_); intro v' w2 hown' hgrow _; obtain ⟨ao, n', cap, rfl⟩ := own_slice hown'; obtain ⟨d0, d1, f1, HF⟩ := put_facts hB hbk hown hne hb1 hbz hk1 hgrow (m := m) (by rw [hm] at hown'; exact hown'); clear hown hown' hgrow hbk hb1 hne)
  go_wp2
  go_ret2
  exact ⟨rfl, .inr HF.out.1, HF.out.2.1, HF.out.2.2⟩
/-- String. -/
theorem bstring_any (B b : Nat) (l : List UInt8) (w : World) (h : Bd B b l w) (hBw : B ≤ w.heap.size) :
    Calls Try.prog 67 #[.pointer (some ⟨b, 0, none⟩)] w fun e w' => e = .returned (.string (bs l)) ∧ Below B w w' :=
  Any.Builder_String_any Try.lays169 Try.Builder_Extra_169 B b l w h hBw
end Go.Proofs.Ytdjgndnllaingaa.FrW
/-
  label.Key: THE WALK.
-/
namespace Go.Proofs.Ytdjgndnllaingaa.FrW
set_option linter.unusedVariables false
open Go.RowKit FrM LabM LbM LabW
def shortL (l : List Lab) : Prop := ∀ x ∈ l, x.1.size ≤ 300 ∧ x.2.size ≤ 300
theorem keyL_at (l : List Lab) (k : Nat) (h : k < l.length) : keyL (l.drop k) = text l[k].1.data.toList ++ (text l[k].2.data.toList ++ keyL (l.drop (k + 1))) := by
  rw [List.drop_eq_getElem_cons h, keyL]
set_option maxRecDepth 20000 in
set_option maxHeartbeats 2000000 in
theorem key_any (A : Option Addr) (n c : Nat) (l : List Lab) (w : World) (hl : Comes w 2 encL okL A n c l) (hn : n ≤ 10) (hs : shortL l) :
    Calls Try.prog 49 #[.slice A n c] w fun e w' => e = .returned (.string (bs (keyL l))) ∧ Below w.heap.size w w' := by
  have HL := Lib.hid hl
  have HS := Lib.hid hs
  have hcap : c ≤ 9223372036854775807 := hl.cap
  have hle := hl.le
  obtain ⟨S, hS⟩ : ∃ S, keyL l = S := ⟨_, rfl⟩
  rw [hS]
  have HK := Lib.hid hS
  clear hl hs hS
  go_enter Try.func49, Try.ntmps49
  go_wp2_with fail
  go_loopw [8] (fun v8 wr => ∃ (k : Nat) (acc : List UInt8), k ≤ n ∧ v8 = .int .i64 k ∧ acc.length ≤ k * 620 ∧ S = acc ++ keyL (l.drop k) ∧ Bd w.heap.size w.heap.size acc wr ∧ Below w.heap.size w wr) (fun v8 _ => n - (intOf v8).toNat)
  case atStart => exact ⟨0, [], Nat.zero_le _, rfl, Nat.zero_le _, HK.out.symm, Bd.fresh w, (Below.refl _ _).alloc (Nat.le_refl _) _⟩
  case round =>
    obtain ⟨k, acc, hk, rfl, hal, hacc, hbd, ho⟩ := hrel
    have hln := HL.out.len
    by_cases hlt : k < n
    · have hkl : k < l.length := by omega
      obtain ⟨b, o, rfl, hcs⟩ := lab_cells HL.out.lies hkl
      obtain ⟨hc0, hc1⟩ := hcs _ ho
      have hok := HS.out _ (List.getElem_mem hkl)
      rw [keyL_at l k hkl] at hacc
      generalize l[k] = x at *
      obtain ⟨x1, x2⟩ := x
      obtain ⟨hx1, hx2⟩ := hok
      simp only [] at hc0 hc1 hacc hx1 hx2
      have HO := Lib.hid (And.intro ho (And.intro hbd hacc))
      have hl1 : x1.data.toList.length = x1.size := by simp
      have hl2 : x2.data.toList.length = x2.size := by simp
      obtain ⟨m1, hm1⟩ : ∃ m, text x1.data.toList = m := ⟨_, rfl⟩
      obtain ⟨m2, hm2⟩ : ∃ m, text x2.data.toList = m := ⟨_, rfl⟩
      have hz1 : m1.length ≤ 310 := by rw [← hm1]; have := text_le x1.data.toList; omega
      have hz2 : m2.length ≤ 310 := by rw [← hm2]; have := text_le x2.data.toList; omega
      have C1 : Hid (∀ W : World, Calls Try.prog 66 #[.string x1] W fun e w' => e = .returned (.string (bs m1)) ∧ Below W.heap.size W w') := Lib.hid (fun W => by have := text_any x1.data.toList W (by omega); rw [hm1] at this; exact this)
      have C2 : Hid (∀ W : World, Calls Try.prog 66 #[.string x2] W fun e w' => e = .returned (.string (bs m2)) ∧ Below W.heap.size W w') := Lib.hid (fun W => by have := text_any x2.data.toList W (by omega); rw [hm2] at this; exact this)
      rw [hm1, hm2] at hacc
      have CW : Hid (∀ W : World, Bd w.heap.size w.heap.size acc W → w.heap.size ≤ W.heap.size → Calls Try.prog 65 #[.pointer (some ⟨w.heap.size, 0, none⟩), .string (bs m1 ++ bs m2)] W fun e w' => e = .returned (.tuple #[.int .i64 ((m1 ++ m2).length : Int), .nilIface]) ∧ Bd w.heap.size w.heap.size (acc ++ (m1 ++ m2)) w' ∧ Below w.heap.size W w' ∧ Keeps w.heap.size W w') := Lib.hid (fun W hb hz => by
        rw [bs_append]; exact writes_any _ _ acc (m1 ++ m2) W hb (by rw [List.length_append]; omega) hz)
      have hg0 : w.heap.size < wr.heap.size := hbd.lt
      have ho0 : Below w.heap.size w (wr.alloc (.cells #[.string x1, .string x2] 60 (0, 0))) := ho.alloc ho.size _
      have hbd0 : Bd w.heap.size w.heap.size acc (wr.alloc (.cells #[.string x1, .string x2] 60 (0, 0))) := hbd.later ((Below.refl _ _).alloc (Nat.le_refl _) _)
      have hx0 : (wr.alloc (.cells #[.string x1, .string x2] 60 (0, 0))).heap[wr.heap.size]? = some (.cells #[.string x1, .string x2] 60 (0, 0)) := heap_alloc_new wr _
      have HF := Lib.hid (And.intro hacc (And.intro hal (And.intro hz1 hz2)))
      have hzb1 : (bs m1).size ≤ 310 := by rw [bs_size]; exact hz1
      have hzb2 : (bs m2).size ≤ 310 := by rw [bs_size]; exact hz2
      obtain ⟨M1, hM1⟩ : ∃ M, bs m1 = M := ⟨_, rfl⟩
      obtain ⟨M2, hM2⟩ : ∃ M, bs m2 = M := ⟨_, rfl⟩
      rw [hM1] at hzb1 C1 CW
      rw [hM2] at hzb2 C2 CW
      have hadd : ∀ W : World, (Op.stringOp .add M1 M2).run Try.prog W = .ok (.string (M1 ++ M2)) W := fun W => run_string_add_sum W M1 M2 (by omega)
      have hadl : M1.size + M2.size ≤ 9223372036854775807 := by omega
      have K0 : (Below w.heap.size w (wr.alloc (.cells #[.string x1, .string x2] 60 (0, 0))) ∧ (wr.alloc (.cells #[.string x1, .string x2] 60 (0, 0))).heap[wr.heap.size]? = some (.cells #[.string x1, .string x2] 60 (0, 0))) ∧ (wr.alloc (.cells #[.string x1, .string x2] 60 (0, 0))).cell? ⟨wr.heap.size, 0, none⟩ = some (.string x1) ∧ (wr.alloc (.cells #[.string x1, .string x2] 60 (0, 0))).cell? ⟨wr.heap.size, 1, none⟩ = some (.string x2) :=
        ⟨⟨ho0, hx0⟩, by rw [cell_of_row _ _ _ _ _ _ hx0]; rfl, by rw [cell_of_row _ _ _ _ _ _ hx0]; rfl⟩
      have K1 := Lib.hid (fun (W W' : World) (h : Below w.heap.size w W ∧ W.heap[wr.heap.size]? = some (.cells #[.string x1, .string x2] 60 (0, 0))) (hb : Below w.heap.size W W') (hk : Keeps w.heap.size W W') =>
        (have hx := hk _ _ _ (by omega) (by decide) h.2; ⟨⟨h.1.trans hb, hx⟩, by rw [cell_of_row _ _ _ _ _ _ hx]; rfl, by rw [cell_of_row _ _ _ _ _ _ hx]; rfl⟩ :
          (Below w.heap.size w W' ∧ W'.heap[wr.heap.size]? = some (.cells #[.string x1, .string x2] 60 (0, 0))) ∧ W'.cell? ⟨wr.heap.size, 0, none⟩ = some (.string x1) ∧ W'.cell? ⟨wr.heap.size, 1, none⟩ = some (.string x2)))
      have KT := Lib.hid (fun (W W' : World) (h : Below w.heap.size w W ∧ W.heap[wr.heap.size]? = some (.cells #[.string x1, .string x2] 60 (0, 0))) (hb : Below W.heap.size W W') => K1.out W W' h (hb.mono h.1.size) (Keeps.of_below hb))
      have KB := Lib.hid (fun (W W' : World) (hb : Below (wr.alloc (.cells #[.string x1, .string x2] 60 (0, 0))).heap.size (wr.alloc (.cells #[.string x1, .string x2] 60 (0, 0))) W) (hb2 : Below W.heap.size W W') => (hbd0.later hb).later hb2)
      clear ho hln hcs hbd hacc hl1 hl2 hm1 hm2 hal hz1 hz2 hx1 hx2 hM1 hM2 ho0 hbd0
      clear hx0
      go_wp2_with fail
      clear hc0 hc1
      generalize (wr.alloc (.cells #[.string x1, .string x2] 60 (0, 0))) = W0 at *
      go_region_held3 (fun W : World => (Below w.heap.size w W ∧ W.heap[wr.heap.size]? = some (.cells #[.string x1, .string x2] 60 (0, 0))) ∧ W.cell? ⟨wr.heap.size, 0, none⟩ = some (.string x1) ∧ W.cell? ⟨wr.heap.size, 1, none⟩ = some (.string x2))
        (first | exact K0 | exact KT.out _ _ (And.left K0) (below_self_drew _) | exact KT.out _ _ (And.left (by assumption)) (by assumption) | exact K1.out _ _ (And.left (by assumption)) (by assumption) (by assumption))
        (first
          | (go_at_call 66; refine (C1.out _).mono ?_; rintro e w5 ⟨rfl, hb5⟩)
          | (go_at_call 66; refine (C2.out _).mono ?_; rintro e w6 ⟨rfl, hb6⟩)
          | (go_at_call 65; refine (CW.out _ (KB.out _ _ (below_draw hb5) hb6) (Nat.le_trans K0.1.1.size (Nat.le_trans hb5.size hb6.size))).mono ?_; rintro e w7 ⟨rfl, hbd7, hb7, hk7⟩))
      rename_i hh
      have HH := Lib.hid (And.intro hh.1.1 hbd7)
      clear hh hbd7 hb7 hk7 hb5 hb6 K0 K1 KT KB C1 C2 CW hadd hadl hzb1 hzb2
      go_wp2_with fail
      go_round
      case rel => exact ⟨k + 1, acc ++ (m1 ++ m2), by omega, by go_num, by have := HF.out; rw [List.length_append, List.length_append]; omega, by rw [HF.out.1]; simp, HH.out.2, HH.out.1⟩
      case measure => simp [intOf]; omega
    · have hkn : k = n := by omega
      subst hkn
      rw [List.drop_of_length_le (by omega)] at hacc
      have hS : S = acc := by rw [hacc]; simp [keyL]
      subst hS
      have CB := Lib.hid (fun (W : World) (hb : Bd w.heap.size w.heap.size S W) (hz : w.heap.size ≤ W.heap.size) => bstring_any w.heap.size w.heap.size S W hb hz)
      have HH := Lib.hid (And.intro ho hbd)
      clear ho hbd hacc
      go_wp2_with fail
      refine (CB.out _ HH.out.2 HH.out.1.size).mono ?_
      rintro e w8 ⟨rfl, hb8⟩
      go_wp2
      go_ret
      exact ⟨rfl, HH.out.1.trans hb8⟩
end Go.Proofs.Ytdjgndnllaingaa.FrW
/-
  alluviumref03.Small, Text; alluviumref06.Key: THE WALKS.
-/
namespace Go.Proofs.Ytdjgndnllaingaa.FrW
set_option linter.unusedVariables false
open Go.RowKit FrM LabM LbM LabW
end Go.Proofs.Ytdjgndnllaingaa.FrW
/-
  alluviumref06.Key: THE WALK.
-/
namespace Go.Proofs.Ytdjgndnllaingaa.FrW
set_option linter.unusedVariables false
open Go.RowKit FrM LabM LbM LabW
end Go.Proofs.Ytdjgndnllaingaa.FrW
/-
  alluviumref06.Ahead, Right, Longest, Same; label.Less, Same, Longest, Limit: THE WALKS.
-/
namespace Go.Proofs.Ytdjgndnllaingaa.FrW
set_option linter.unusedVariables false
open Go.RowKit FrM LabM LbM LabW
theorem ltB_at (a b : ByteArray) (k : Nat) (ha : k < a.size) (hb : k < b.size) : ltB (a.data.toList.drop k) (b.data.toList.drop k) = if a[k] = b[k] then ltB (a.data.toList.drop (k + 1)) (b.data.toList.drop (k + 1)) else decide (a[k].toNat < b[k].toNat) := by
  rw [List.drop_eq_getElem_cons (l := a.data.toList) (i := k) (by simpa using ha), List.drop_eq_getElem_cons (l := b.data.toList) (i := k) (by simpa using hb)]
  rfl
theorem ltB_end (a b : ByteArray) (k : Nat) (ha : k ≤ a.size) (hb : k ≤ b.size) (h : ¬ (k < a.size ∧ k < b.size)) : ltB (a.data.toList.drop k) (b.data.toList.drop k) = decide (a.size < b.size) := by
  by_cases h1 : k < a.size
  · have h2 : k = b.size := by omega
    rw [List.drop_eq_getElem_cons (l := a.data.toList) (i := k) (by simpa using h1), List.drop_of_length_le (l := b.data.toList) (by simp; omega), decide_eq_false (by omega)]
    rfl
  · have h2 : k = a.size := by omega
    rw [List.drop_of_length_le (l := a.data.toList) (by simp; omega)]
    by_cases h3 : k < b.size
    · rw [List.drop_eq_getElem_cons (l := b.data.toList) (i := k) (by simpa using h3), decide_eq_true (by omega)]; rfl
    · rw [List.drop_of_length_le (l := b.data.toList) (by simp; omega), decide_eq_false (by omega)]; rfl
/-- May labels be, up to the k-th one. -/
def rtL : Txt → List Lab → Bool := chkL
theorem chk_snoc : ∀ (l : List Lab) (last : Txt) (k : Nat) (h : k < l.length), chkL last (l.take (k + 1)) = (chkL last (l.take k) && (ltB (if k = 0 then last else (l.getD (k - 1) (ByteArray.empty, ByteArray.empty)).1.data.toList) l[k].1.data.toList && nameB l[k].1.data.toList && valueB l[k].2.data.toList))
  | [], _, _, h => by simp at h
  | x :: l, last, 0, h => by simp [chkL]
  | x :: l, last, k + 1, h => by
    rw [List.take_succ_cons, List.take_succ_cons, chkL, chkL, chk_snoc l x.1.data.toList k (by simpa using h)]
    cases k with
    | zero => simp [Bool.and_assoc]
    | succ k => simp [Bool.and_assoc]
theorem chk_pre : ∀ (l : List Lab) (last : Txt) (k : Nat), chkL last (l.take k) = false → chkL last l = false
  | [], _, _, h => by simpa using h
  | x :: l, last, 0, h => by simp [chkL] at h
  | x :: l, last, k + 1, h => by
    rw [List.take_succ_cons, chkL] at h
    rw [chkL]
    cases h1 : (ltB last x.1.data.toList && nameB x.1.data.toList && valueB x.2.data.toList) with
    | false => rfl
    | true => rw [h1, Bool.true_and] at h; rw [chk_pre l _ k h]; rfl
theorem ltB_name {s : Txt} (h : nameB s = true) : ltB [] s = true := by
  have := (name_48 h).1
  cases s with
  | nil => simp at this
  | cons => rfl
end Go.Proofs.Ytdjgndnllaingaa.FrW
