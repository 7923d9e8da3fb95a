/-
  A MAP KEYED BY SIX LABELS: what a key is, and a key more.
-/
import Derived.Test.YtdjgndnllaingaaJ38
import Derived.Test.YtdjgndnllaingaaJ22
import Derived.DeepKeys4
import Derived.WideKeyEntry
import Derived.Maps.OwnOps
/-
  A MAP KEYED BY SIX LABELS: what a key is, and a key more.
-/
namespace Go.Proofs.Ytdjgndnllaingaa.TrW
set_option linter.unusedVariables false
open Go.RowKit Go.Shelf LabM LbM LabW FrW TrM
open Go.ChangeMaps (setBlock)
theorem laid : laidOutB Try.prog = true := by kernel_rfl
theorem rowNm : (78 : TypeId) < Try.prog.types.size := of_decide_eq_true (by kernel_rfl)
theorem lawNm : Maps.Keyed Try.prog 78 := Maps.Keyed.of_law (deep_law_laid laid (m := 4) (by omega) rowNm (by kernel_rfl) (by kernel_rfl))
theorem cellsNm : Try.prog.cellsOf 78 = 12 := by kernel_rfl
theorem cellsLb : Try.prog.cellsOf 60 = 2 := by kernel_rfl
theorem cellsSt : Try.prog.cellsOf 9 = 1 := by kernel_rfl
theorem keytNm : Try.prog.keyType 78 = true := by kernel_rfl
theorem sizeNm : ∃ n, Try.prog.types.size = n + 3 := ⟨_, rfl⟩
theorem lits_string (n : Nat) (s : ByteArray) (h : s.size ≤ maxLen) : Try.prog.keyLits (n + 1) 9 [.string s] = some [.string s.data.toList] := by
  unfold Program.keyLits
  simp [Try.underlying9, h]
theorem lits_label (n : Nat) (s t : ByteArray) (h : s.size ≤ maxLen) (h2 : t.size ≤ maxLen) : Try.prog.keyLits (n + 2) 60 [.string s, .string t] = some [.string s.data.toList, .string t.data.toList] := by
  unfold Program.keyLits
  simp [Try.underlying60, cellsLb, cellsSt, lits_string, h, h2]
def keyN (ss : List ByteArray) : Value := .agg (ss.map Value.string).toArray
theorem keyN_is (ss : List ByteArray) (h : ss.length = 12) (hs : ∀ s ∈ ss, s.size ≤ maxLen) : ∃ l, keyOf Try.prog 78 (keyN ss) = some l := by
  obtain ⟨n, hn⟩ := sizeNm
  match ss, h with
  | [s0, s1, s2, s3, s4, s5, s6, s7, s8, s9, s10, s11], _ =>
    simp only [List.mem_cons, List.not_mem_nil, or_false, forall_eq_or_imp, forall_eq] at hs
    obtain ⟨h0, h1, h2, h3, h4, h5, h6, h7, h8, h9, h10, h11⟩ := hs
    have hf : (keyN [s0, s1, s2, s3, s4, s5, s6, s7, s8, s9, s10, s11]).formed Try.prog 78 = true := by
      simp [keyN, Value.formed, Try.underlying78, cellsNm]
    have e : Try.prog.keyLits (n + 3 + 1) 78 ([s0, s1, s2, s3, s4, s5, s6, s7, s8, s9, s10, s11].map Value.string) = some ([s0, s1, s2, s3, s4, s5, s6, s7, s8, s9, s10, s11].map (fun s => Lit.string s.data.toList)) := by
      unfold Program.keyLits
      simp [Try.underlying78, cellsNm, cellsLb, List.range_succ, lits_label, *]
    unfold keyOf
    rw [hn, keytNm, hf]
    simp only [Try.underlying78]
    exact ⟨_, by
      simp only [Bool.and_self, if_true]
      rw [show (keyN [s0, s1, s2, s3, s4, s5, s6, s7, s8, s9, s10, s11]).cells.toList = [s0, s1, s2, s3, s4, s5, s6, s7, s8, s9, s10, s11].map Value.string from rfl, e]
      rfl⟩
/-- The texts of labels, in twelve places. -/
def strsL (l : List Lab) : List ByteArray := l.flatMap (fun x => [x.1, x.2])
def padL (l : List Lab) : List ByteArray := strsL l ++ List.replicate (12 - 2 * l.length) ByteArray.empty
theorem strsL_len (l : List Lab) : (strsL l).length = 2 * l.length := by
  unfold strsL
  induction l with
  | nil => rfl
  | cons x l ih => rw [List.flatMap_cons, List.length_append, ih, List.length_cons]; simp; omega
theorem padL_len {l : List Lab} (h : l.length ≤ 6) : (padL l).length = 12 := by
  unfold padL; rw [List.length_append, strsL_len, List.length_replicate]; omega
theorem padL_inj : ∀ (a b : List Lab) (m k : Nat), (∀ x ∈ a, 0 < x.1.size) → (∀ x ∈ b, 0 < x.1.size) → strsL a ++ List.replicate m ByteArray.empty = strsL b ++ List.replicate k ByteArray.empty → a = b
  | [], [], _, _, _, _, _ => rfl
  | [], y :: b, m, k, _, hb, h => by
    cases m with
    | zero => simp [strsL] at h
    | succ m =>
      rw [show strsL (y :: b) = y.1 :: y.2 :: strsL b from rfl, List.replicate_succ] at h
      injection h with h _
      have := hb y List.mem_cons_self
      rw [← h] at this
      exact absurd this (by decide)
  | x :: a, [], m, k, ha, _, h => by
    cases k with
    | zero => simp [strsL] at h
    | succ k =>
      rw [show strsL (x :: a) = x.1 :: x.2 :: strsL a from rfl, List.replicate_succ] at h
      injection h with h _
      have := ha x List.mem_cons_self
      rw [h] at this
      exact absurd this (by decide)
  | x :: a, y :: b, m, k, ha, hb, h => by
    rw [show strsL (x :: a) = x.1 :: x.2 :: strsL a from rfl, show strsL (y :: b) = y.1 :: y.2 :: strsL b from rfl] at h
    injection h with h1 h
    injection h with h2 h
    have := padL_inj a b m k (fun z hz => ha z (List.mem_cons_of_mem _ hz)) (fun z hz => hb z (List.mem_cons_of_mem _ hz)) h
    rw [this]
    obtain ⟨x1, x2⟩ := x
    obtain ⟨y1, y2⟩ := y
    simp only [] at h1 h2
    rw [h1, h2]
theorem keyN_inj {a b : List ByteArray} (h : keyN a = keyN b) : a = b := by
  unfold keyN at h
  injection h with h
  have h := congrArg Array.toList h
  have : ∀ (x y : ByteArray), Value.string x = Value.string y → x = y := fun x y e => by injection e
  exact List.map_inj_right this |>.1 (by simpa using h)
theorem zeroI (w : World) : (zeroValue 3).run Try.prog w = .ok (.int .i64 0) w := by kernel_rfl
/-- A map with these keys, in the order in which they came. -/
structure MapN (w : World) (b : Nat) (es : Array MapEntry) : Prop where
  at_ : w.heap[b]? = some (.map es es.size)
  born : ∀ x ∈ es.toList, x.born < es.size
  keys : ∀ x ∈ es.toList, ∃ l, keyOf Try.prog 78 x.key = some l
theorem find_new {w : World} {es : List MapEntry} (hks : ∀ x ∈ es, ∃ l, keyOf Try.prog 78 x.key = some l) {key : Value} {kl : Lit} (hk : keyOf Try.prog 78 key = some kl) (hne : ∀ x ∈ es, x.key ≠ key) :
    (Instr.findKey 78 key es).run Try.prog w = .ok none w := by
  rcases lawNm.find w hk es hks with ⟨h, -⟩ | ⟨j, e, -, h2, h3⟩
  · exact h
  · exact absurd h3 (hne e (List.mem_of_getElem? h2))
theorem map_new {w : World} {b : Nat} {es : Array MapEntry} (h : MapN w b es) {key : Value} {kl : Lit} (hk : keyOf Try.prog 78 key = some kl) (hne : ∀ x ∈ es.toList, x.key ≠ key) :
    ∃ w1 w2, (Instr.lookup 75 (.map (some b)) key false).run Try.prog w = .ok (.int .i64 0) w ∧
      (Instr.mapEntry 75 (.map (some b)) key).run Try.prog w = .ok (.tuple #[.int .i64 0, .int .i64 (es.size : Int)]) w1 ∧
      (Instr.lookup 75 (.map (some b)) key false).run Try.prog w1 = .ok (.int .i64 0) w1 ∧
      (Instr.entryStore 75 (.map (some b)) (.int .i64 (es.size : Int)) (.int .i64 1)).run Try.prog w1 = .ok () w2 ∧
      MapN w2 b (es.push ⟨key, .int .i64 1, es.size⟩) ∧ (∀ j, j ≠ b → w1.heap[j]? = w.heap[j]?) ∧ (∀ j, j ≠ b → w2.heap[j]? = w.heap[j]?) ∧ w1.heap.size = w.heap.size ∧ w2.heap.size = w.heap.size ∧ w2.os = w.os ∧ w2.tape = w.tape ∧ w2.output = w.output := by
  have ht := Try.underlying75
  have hf := fun w => find_new (w := w) h.keys hk hne
  obtain ⟨w1, hw1⟩ : ∃ w1, setBlock w b (.map (es.push ⟨key, .int .i64 0, es.size⟩) (es.size + 1)) = w1 := ⟨_, rfl⟩
  have hb1 : w1.heap[b]? = some (.map (es.push ⟨key, .int .i64 0, es.size⟩) (es.size + 1)) := by rw [← hw1]; exact ChangeMaps.heap_setBlock_same h.at_ _
  obtain ⟨w2, hw2⟩ : ∃ w2, setBlock w1 b (.map (es.push ⟨key, .int .i64 1, es.size⟩) (es.size + 1)) = w2 := ⟨_, rfl⟩
  have hb2 : w2.heap[b]? = some (.map (es.push ⟨key, .int .i64 1, es.size⟩) (es.size + 1)) := by rw [← hw2]; exact ChangeMaps.heap_setBlock_same hb1 _
  have hks1 : ∀ v, ∀ x ∈ (es.push ⟨key, v, es.size⟩).toList, ∃ l, keyOf Try.prog 78 x.key = some l := by
    intro v x hx
    simp only [Array.toList_push, List.mem_append, List.mem_singleton] at hx
    rcases hx with hx | rfl
    · exact h.keys x hx
    · exact ⟨kl, hk⟩
  refine ⟨w1, w2, ?_, ?_, ?_, ?_, ⟨by rw [hb2]; simp, ?_, hks1 _⟩, fun j hj => by rw [← hw1]; exact ChangeMaps.heap_setBlock_other h.at_ _ hj, fun j hj => by rw [← hw2, ← hw1]; exact (ChangeMaps.heap_setBlock_other (by rw [hw1]; exact hb1) _ hj).trans (ChangeMaps.heap_setBlock_other h.at_ _ hj), by rw [← hw1]; simp [setBlock], by rw [← hw2, ← hw1]; simp [setBlock], by rw [← hw2, ← hw1]; rfl, by rw [← hw2, ← hw1]; rfl, by rw [← hw2, ← hw1]; rfl⟩
  · simp [Instr.lookup, run_underlying ht, MapKept.run_getObj_map h.at_, lawNm.check w _ hk, hf, Result.andThen]
  · simp [Instr.mapEntry, run_underlying ht, MapKept.run_getObj_map h.at_, lawNm.check w _ hk, hf, MapKept.run_setObj_map _ h.at_, Result.andThen, goInt]
    exact hw1
  · rcases lawNm.find w1 hk _ (hks1 (.int .i64 0)) with ⟨-, h2⟩ | ⟨j, e, h1, h2, h3⟩
    · exact absurd rfl (h2 ⟨key, .int .i64 0, es.size⟩ (by simp))
    · have he : e = ⟨key, .int .i64 0, es.size⟩ := by
        have := List.mem_of_getElem? h2
        simp only [Array.toList_push, List.mem_append, List.mem_singleton] at this
        rcases this with hx | hx
        · exact absurd h3 (hne e hx)
        · exact hx
      have h1 := h1
      rw [he] at h1
      simp [Instr.lookup, run_underlying ht, MapKept.run_getObj_map hb1, lawNm.check w1 _ hk, Result.andThen] 
      simp at h1
      simp [h1]
  · have hidx : (es.push ⟨key, .int .i64 0, es.size⟩).findIdx? (fun e => ((e.born : Nat) : Int) == ((es.size : Nat) : Int)) = some es.size := by
      rw [WideElems.findIdx_arr, List.findIdx?_eq_some_iff_getElem]
      refine ⟨by simp, by simp, fun j hj => ?_⟩
      have := h.born es[j] (by simp)
      simp only [Array.toList_push]
      rw [List.getElem_append_left (by simpa using hj)]
      simp
      omega
    have hmod : (es.push ⟨key, .int .i64 0, es.size⟩).modify es.size (fun e => { e with val := .int .i64 1 }) = es.push ⟨key, .int .i64 1, es.size⟩ := by
      apply Array.ext'
      rw [Array.toList_modify, Array.toList_push, Array.toList_push, ← Array.length_toList, WideElems.modify_last]
    simp [Instr.entryStore, MapKept.run_getObj_map hb1, asInt, asIntOf, hidx, hmod, MapKept.run_setObj_map _ hb1, Result.andThen]
    exact hw2
  · intro x hx
    simp only [Array.toList_push, List.mem_append, List.mem_singleton] at hx
    rcases hx with hx | rfl
    · have := h.born x hx; simp; omega
    · simp
theorem elem2 : (Try.prog.info? 60).map (·.size) = some 2 := by kernel_rfl
theorem strsL_flat (l : List Lab) : l.flatMap encL = (strsL l).map Value.string := by
  unfold strsL encL
  rw [List.map_flatMap]
  rfl
/-- A round: the labels as a key, and the key in the map. -/
theorem key_round {w W : World} {b : Nat} {es : Array MapEntry} (hM : MapN W b es) (hb : w.heap.size ≤ b) (hbw : Below w.heap.size w W) {A1 : Option Addr} {n1 c1 : Nat} {L : List Lab} (hl : Comes W 2 encL okL A1 n1 c1 L) (h1 : 1 ≤ n1) (h6 : n1 ≤ 6)
    (hne : ∀ x ∈ es.toList, x.key ≠ keyN (padL L)) :
    ∃ wk wc s0 s1 s2 s3 s4 s5 s6 s7 s8 s9 s10 s11 w1 w2, W.alloc (.cells #[.string ByteArray.empty, .string ByteArray.empty, .string ByteArray.empty, .string ByteArray.empty, .string ByteArray.empty, .string ByteArray.empty, .string ByteArray.empty, .string ByteArray.empty, .string ByteArray.empty, .string ByteArray.empty, .string ByteArray.empty, .string ByteArray.empty] 78 (0, 0)) = wk ∧
      (∀ ty, (Builtin.copy_ #[35, 35] ty #[.slice (some ⟨W.heap.size, 0, none⟩) 6 6, .slice A1 n1 c1]).run Try.prog wk.drew = .ok (goInt n1) wc) ∧
      wc.heap[W.heap.size]? = some (.cells #[.string s0, .string s1, .string s2, .string s3, .string s4, .string s5, .string s6, .string s7, .string s8, .string s9, .string s10, .string s11] 78 (0, 0)) ∧
      keyN (padL L) = .agg #[.string s0, .string s1, .string s2, .string s3, .string s4, .string s5, .string s6, .string s7, .string s8, .string s9, .string s10, .string s11] ∧
      (Instr.lookup 75 (.map (some b)) (.agg #[.string s0, .string s1, .string s2, .string s3, .string s4, .string s5, .string s6, .string s7, .string s8, .string s9, .string s10, .string s11]) false).run Try.prog wc.drew = .ok (.int .i64 0) wc.drew ∧
      (Instr.mapEntry 75 (.map (some b)) (.agg #[.string s0, .string s1, .string s2, .string s3, .string s4, .string s5, .string s6, .string s7, .string s8, .string s9, .string s10, .string s11])).run Try.prog wc.drew = .ok (.tuple #[.int .i64 0, .int .i64 (es.size : Int)]) w1 ∧
      (Instr.lookup 75 (.map (some b)) (.agg #[.string s0, .string s1, .string s2, .string s3, .string s4, .string s5, .string s6, .string s7, .string s8, .string s9, .string s10, .string s11]) false).run Try.prog w1 = .ok (.int .i64 0) w1 ∧
      (Instr.entryStore 75 (.map (some b)) (.int .i64 (es.size : Int)) (.int .i64 1)).run Try.prog w1 = .ok () w2 ∧
      MapN w2 b (es.push ⟨keyN (padL L), .int .i64 1, es.size⟩) ∧ (∀ j, j < W.heap.size → j ≠ b → w2.heap[j]? = W.heap[j]?) ∧ Below w.heap.size w w2 := by
  obtain ⟨wk, hk⟩ : ∃ wk, W.alloc (.cells #[.string ByteArray.empty, .string ByteArray.empty, .string ByteArray.empty, .string ByteArray.empty, .string ByteArray.empty, .string ByteArray.empty, .string ByteArray.empty, .string ByteArray.empty, .string ByteArray.empty, .string ByteArray.empty, .string ByteArray.empty, .string ByteArray.empty] 78 (0, 0)) = wk := ⟨_, rfl⟩
  have hbk : Below W.heap.size W wk := by rw [← hk]; exact (Below.refl _ _).alloc (Nat.le_refl _) _
  have hrk := hk ▸ heap_alloc_new W _
  have hzk : wk.heap.size = W.heap.size + 1 := by rw [← hk]; simp
  have hb2 := (Array.getElem?_eq_some_iff.1 hM.at_).1
  have hL6 : L.length ≤ 6 := by rw [hl.len]; exact h6
  have hpl := padL_len hL6
  have hsz : ∀ s ∈ padL L, s.size ≤ maxLen := by
    intro s hs
    unfold padL at hs
    rcases List.mem_append.1 hs with hs | hs
    · obtain ⟨x, hx, hs⟩ := List.mem_flatMap.1 hs
      have := hl.ok x hx
      simp only [List.mem_cons, List.not_mem_nil, or_false] at hs
      rcases hs with rfl | rfl
      · exact this.1
      · exact this.2
    · rw [(List.mem_replicate.1 hs).2]; unfold maxLen; decide
  obtain ⟨kl, hkl⟩ := keyN_is (padL L) hpl hsz
  obtain ⟨b1, o1, hA1, hlt, -⟩ := hl.lies.all (k := 0) (by rw [hl.len]; omega)
  subst hA1
  have hlk : Comes wk.drew 2 encL okL (some ⟨b1, o1, none⟩) n1 c1 L := hl.later ⟨hbk.os, hbk.tape, hbk.output, hbk.size, hbk.block⟩
  obtain ⟨wc, hwc⟩ : ∃ wc, wk.drew.setRow W.heap.size ((padL L).map Value.string).toArray = wc := ⟨_, rfl⟩
  have hrow : ((#[.string ByteArray.empty, .string ByteArray.empty, .string ByteArray.empty, .string ByteArray.empty, .string ByteArray.empty, .string ByteArray.empty, .string ByteArray.empty, .string ByteArray.empty, .string ByteArray.empty, .string ByteArray.empty, .string ByteArray.empty, .string ByteArray.empty] : Array Value).toList.take 0 ++ L.flatMap encL ++ (#[.string ByteArray.empty, .string ByteArray.empty, .string ByteArray.empty, .string ByteArray.empty, .string ByteArray.empty, .string ByteArray.empty, .string ByteArray.empty, .string ByteArray.empty, .string ByteArray.empty, .string ByteArray.empty, .string ByteArray.empty, .string ByteArray.empty] : Array Value).toList.drop (0 + (L.flatMap encL).length)).toArray = ((padL L).map Value.string).toArray := by
    unfold padL
    rw [List.map_append, List.map_replicate, strsL_flat, List.take_zero, List.nil_append, Nat.zero_add, List.length_map, strsL_len]
    have : ∀ m, (List.replicate 12 (Value.string ByteArray.empty)).drop m = List.replicate (12 - m) (Value.string ByteArray.empty) := fun m => List.drop_replicate ..
    rw [← this]
    rfl
  have hcp : ∀ ty, (Builtin.copy_ #[35, 35] ty #[.slice (some ⟨W.heap.size, 0, none⟩) 6 6, .slice (some ⟨b1, o1, none⟩) n1 c1]).run Try.prog wk.drew = .ok (goInt n1) wc := by
    intro ty
    have hln : (L.flatMap encL).length = n1 * 2 := by rw [strsL_flat, List.length_map, strsL_len, hl.len]; omega
    have := run_copy_rowN (P := Try.prog) wk.drew 35 35 ty 60 2 W.heap.size 0 6 6 ⟨b1, o1, none⟩ n1 c1 _ 78 (L.flatMap encL) Try.underlying35 elem2 (show wk.drew.heap[W.heap.size]? = _ from hrk) (by rw [hln, show Nat.min n1 6 = n1 from Nat.min_eq_left h6]) (hlk.news (fun _ => rfl) (by omega)) (by rw [hln]; simp; omega) (fun v hv => by
      rw [strsL_flat] at hv
      obtain ⟨s, -, rfl⟩ := List.mem_map.1 hv
      rfl)
    rw [hrow, hwc, show Nat.min n1 6 = n1 from Nat.min_eq_left h6] at this
    exact this
  have hrc : wc.heap[W.heap.size]? = some (.cells ((padL L).map Value.string).toArray 78 (0, 0)) := by rw [← hwc]; exact setRow_heap wk.drew W.heap.size _ _ 78 (0, 0) hrk
  have hoc : ∀ j, j ≠ W.heap.size → wc.heap[j]? = wk.heap[j]? := fun j hj => by rw [← hwc]; exact setRow_other _ _ _ _ hj
  have hzc : wc.heap.size = W.heap.size + 1 := by rw [← hwc, ← hzk]; simp [World.setRow]
  have hMc : MapN wc.drew b es := ⟨(hoc b (by omega)).trans ((hbk.block b hb2).trans hM.at_), hM.born, hM.keys⟩
  obtain ⟨w1, w2, k1, k2, k3, k4, k5, k6, k7, k8, k9, k10, k11, k12⟩ := map_new hMc hkl hne
  have hbwk := later hbw hbk
  have hfin : Below w.heap.size w w2 := by
    have hx := below_setRow (B := w.heap.size) (Below.refl w.heap.size wk.drew) hbw.size ((padL L).map Value.string).toArray
    rw [hwc] at hx
    refine ⟨k10.trans (hx.os.trans hbwk.os), k11.trans (hx.tape.trans hbwk.tape), k12.trans (hx.output.trans hbwk.output), ?_, fun j hj => ?_⟩
    · rw [k9]; show _ ≤ wc.heap.size; have := hbw.size; omega
    · have := hbw.size
      exact (k7 j (by omega)).trans ((hoc j (by omega)).trans (hbwk.block j hj))
  have hkey : ∀ j, j < W.heap.size → j ≠ b → w2.heap[j]? = W.heap[j]? := fun j hj hjb => (k7 j hjb).trans ((hoc j (by omega)).trans (hbk.block j hj))
  have key : ∀ ss : List ByteArray, padL L = ss → ss.length = 12 → ∃ s0 s1 s2 s3 s4 s5 s6 s7 s8 s9 s10 s11, ss = [s0, s1, s2, s3, s4, s5, s6, s7, s8, s9, s10, s11] := fun ss _ h => by
    match ss, h with
    | [s0, s1, s2, s3, s4, s5, s6, s7, s8, s9, s10, s11], _ => exact ⟨_, _, _, _, _, _, _, _, _, _, _, _, rfl⟩
  obtain ⟨s0, s1, s2, s3, s4, s5, s6, s7, s8, s9, s10, s11, hss⟩ := key _ rfl hpl
  have hkv : keyN (padL L) = .agg #[.string s0, .string s1, .string s2, .string s3, .string s4, .string s5, .string s6, .string s7, .string s8, .string s9, .string s10, .string s11] := by rw [hss]; rfl
  rw [hss] at hrc
  rw [hkv] at k1 k2 k3
  exact ⟨wk, wc, s0, s1, s2, s3, s4, s5, s6, s7, s8, s9, s10, s11, w1, w2, hk, hcp, hrc, hkv, k1, k2, k3, k4, k5, hkey, hfin⟩
end Go.Proofs.Ytdjgndnllaingaa.TrW
