/-
  VALUES AS BITS: Get, WALKED.
-/
import Derived.Test.YtdidengokijcjaaDoorJ16
import Derived.Test.YtdidengokijcjaaDoorJ11
/-
  VALUES AS BITS: Get, WALKED.
-/
namespace Go.Proofs.YtdidengokijcjaaDoor.VaW
set_option linter.unusedVariables false
open Go.RowKit Go.Shelf BitsM BitsW VaM
/-- What is told of what get reads. -/
def ToldV (S : List Bool) (p : Nat) (s st : Sv) (ok : Bool) (q : Nat) : Prop :=
  match getV (S.drop p) s with
  | none => ok = false
  | some (v, k) => ok = true ∧ st = aftV s v ∧ q = p + k
theorem told_no {S : List Bool} {p : Nat} {s st : Sv} {q : Nat} (h : getV (S.drop p) s = none) : ToldV S p s st false q := by unfold ToldV; rw [h]
theorem told_yes {S : List Bool} {p : Nat} {s st : Sv} {q v k : Nat} (h : getV (S.drop p) s = some (v, k)) (h1 : st = aftV s v) (h2 : q = p + k) : ToldV S p s st true q := by unfold ToldV; rw [h]; exact ⟨rfl, h1, h2⟩
theorem told_any {S : List Bool} {p : Nat} {s st st2 : Sv} {q q2 : Nat} (h : ToldV S p s st false q) : ToldV S p s st2 false q2 := by
  unfold ToldV at h ⊢
  cases hg : getV (S.drop p) s with
  | none => rfl
  | some x => rw [hg] at h; exact absurd h.1 (by decide)
theorem one_bit {S : List Bool} {q : Nat} (hl : q < S.length) : numB ((S.drop q).take 1) = (S[q]'hl).toNat := by
  rw [List.drop_eq_getElem_cons hl, List.take_succ_cons, List.take_zero]
  cases S[q] <;> rfl
section
variable {S : List Bool} {p : Nat} {s : Sv}
theorem told0 (h0 : s.1 = 0) (hl : p + 64 ≤ S.length) : ToldV S p s (1, numB ((S.drop p).take 64), s.2.2.1, s.2.2.2) true (p + 64) := by
  refine told_yes (v := numB ((S.drop p).take 64)) (k := 64) ?_ ?_ rfl
  · unfold getV; rw [if_pos h0, if_neg (by rw [List.length_drop]; omega)]
  · unfold aftV; rw [if_pos (.inl h0), h0]
theorem told0n {st : Sv} {q : Nat} (h0 : s.1 = 0) (hl : S.length < p + 64) : ToldV S p s st false q := by
  refine told_no ?_
  unfold getV; rw [if_pos h0, if_pos (by rw [List.length_drop]; omega)]
theorem toldE {st : Sv} {q : Nat} (h0 : ¬ s.1 = 0) (hl : S.length ≤ p) : ToldV S p s st false q := by
  refine told_no ?_
  unfold getV; rw [if_neg h0, List.drop_eq_nil_of_le hl]
theorem told00 (h0 : ¬ s.1 = 0) (hl : p < S.length) (hb : S[p]'hl = false) : ToldV S p s (s.1 + 1, s.2.1, s.2.2.1, s.2.2.2) true (p + 1) := by
  refine told_yes (v := s.2.1) (k := 1) ?_ ?_ rfl
  · unfold getV; rw [if_neg h0, List.drop_eq_getElem_cons hl, hb]
  · unfold aftV; rw [if_pos (.inr (.inl (Nat.xor_self _)))]
theorem told1E {st : Sv} {q : Nat} (h0 : ¬ s.1 = 0) (hl : p < S.length) (hb : S[p]'hl = true) (he : S.length ≤ p + 1) : ToldV S p s st false q := by
  refine told_no ?_
  unfold getV; rw [if_neg h0, List.drop_eq_getElem_cons hl, hb, List.drop_eq_nil_of_le he]
theorem two_ahead (hl : p < S.length) {b : Bool} (hb : S[p]'hl = true) (hl2 : p + 1 < S.length) (hb2 : S[p + 1]'hl2 = b) : S.drop p = true :: b :: S.drop (p + 2) := by
  rw [List.drop_eq_getElem_cons hl, hb, List.drop_eq_getElem_cons hl2, hb2]
theorem toldIn {st : Sv} {q : Nat} (h0 : ¬ s.1 = 0) (h2 : S.drop p = true :: false :: S.drop (p + 2)) (hl0 : p + 2 ≤ S.length) (hl : S.length < p + 2 + (64 - s.2.2.1 - s.2.2.2)) : ToldV S p s st false q := by
  refine told_no ?_
  unfold getV; rw [if_neg h0, h2]
  show (if (S.drop (p + 2)).length < 64 - s.2.2.1 - s.2.2.2 then none else _) = none
  rw [if_pos (by rw [List.length_drop]; omega)]
theorem way_two (h0 : ¬ s.1 = 0) (x : Nat) : wayN s x = 2 ↔ x ≠ 0 ∧ inB s x = true := by
  unfold wayN; rw [if_neg h0]
  by_cases hx : x = 0
  · rw [if_pos hx]; simp [hx]
  by_cases hi : inB s x = true
  · rw [if_neg hx, if_pos hi]; simp [hx, hi]
  · rw [if_neg hx, if_neg hi]; simp [hi]
theorem way_three (h0 : ¬ s.1 = 0) (x : Nat) : wayN s x = 3 ↔ x ≠ 0 ∧ inB s x = false := by
  unfold wayN; rw [if_neg h0]
  by_cases hx : x = 0
  · rw [if_pos hx]; simp [hx]
  by_cases hi : inB s x = true
  · rw [if_neg hx, if_pos hi]; simp [hi]
  · rw [if_neg hx, if_neg hi]; simp [hx, hi]
theorem toldI (h0 : ¬ s.1 = 0) (h2 : S.drop p = true :: false :: S.drop (p + 2)) (hl : p + 2 + (64 - s.2.2.1 - s.2.2.2) ≤ S.length) {x : Nat} (hx : x = numB ((S.drop (p + 2)).take (64 - s.2.2.1 - s.2.2.2)) * 2 ^ s.2.2.2) :
    ToldV S p s (s.1 + 1, s.2.1 ^^^ x, s.2.2.1, s.2.2.2) (decide (wayN s x = 2)) (p + 2 + (64 - s.2.2.1 - s.2.2.2)) := by
  have hw := way_two h0 x
  have hg : getV (S.drop p) s = if x ≠ 0 ∧ inB s x = true then some (s.2.1 ^^^ x, 2 + (64 - s.2.2.1 - s.2.2.2)) else none := by
    unfold getV; rw [if_neg h0, h2]
    show (if (S.drop (p + 2)).length < 64 - s.2.2.1 - s.2.2.2 then none else _) = _
    rw [if_neg (by rw [List.length_drop]; omega), ← hx]
  by_cases hc : x ≠ 0 ∧ inB s x = true
  · rw [decide_eq_true (hw.2 hc)]
    rw [if_pos hc] at hg
    refine told_yes hg ?_ (by omega)
    unfold aftV; rw [xor_fore, if_pos (.inr (.inr hc.2))]
  · rw [decide_eq_false (fun h => hc (hw.1 h))]
    rw [if_neg hc] at hg
    exact told_no hg
theorem toldNn {st : Sv} {q : Nat} (h0 : ¬ s.1 = 0) (h2 : S.drop p = true :: true :: S.drop (p + 2)) (hl : S.length < p + 14) : ToldV S p s st false q := by
  refine told_no ?_
  unfold getV; rw [if_neg h0, h2]
  show (if (S.drop (p + 2)).length < 12 then none else _) = none
  rw [if_pos (by rw [List.length_drop]; omega)]
theorem toldN_neg {st : Sv} {q a b : Nat} (h0 : ¬ s.1 = 0) (h2 : S.drop p = true :: true :: S.drop (p + 2)) (ha : numB ((S.drop (p + 2)).take 6) = a) (hb : numB ((S.drop (p + 2 + 6)).take 6) = b) (hl : p + 14 ≤ S.length) (hn : 63 < a + b) : ToldV S p s st false q := by
  refine told_no ?_
  unfold getV; rw [if_neg h0, h2]
  show (if (S.drop (p + 2)).length < 12 then none else _) = none
  rw [if_neg (by rw [List.length_drop]; omega), List.drop_drop, ha, hb, if_pos hn]
theorem toldN_n2 {st : Sv} {q a b : Nat} (h0 : ¬ s.1 = 0) (h2 : S.drop p = true :: true :: S.drop (p + 2)) (ha : numB ((S.drop (p + 2)).take 6) = a) (hb : numB ((S.drop (p + 2 + 6)).take 6) = b) (hl : p + 14 ≤ S.length) (hn : a + b ≤ 63) (hl2 : S.length < p + 14 + (b + 1)) : ToldV S p s st false q := by
  refine told_no ?_
  unfold getV; rw [if_neg h0, h2]
  show (if (S.drop (p + 2)).length < 12 then none else _) = none
  rw [if_neg (by rw [List.length_drop]; omega), List.drop_drop, ha, hb, if_neg (by omega), if_pos (by rw [List.length_drop]; omega)]
theorem toldN {a b x : Nat} (h0 : ¬ s.1 = 0) (h2 : S.drop p = true :: true :: S.drop (p + 2)) (ha : numB ((S.drop (p + 2)).take 6) = a) (hb : numB ((S.drop (p + 2 + 6)).take 6) = b) (hl : p + 14 ≤ S.length) (hn : a + b ≤ 63) (hl2 : p + 14 + (b + 1) ≤ S.length)
    (hx : x = numB ((S.drop (p + 14)).take (b + 1)) * 2 ^ (63 - a - b)) :
    ToldV S p s (s.1 + 1, s.2.1 ^^^ x, a, 63 - a - b) (decide (wayN s x = 3 ∧ ld x = a ∧ tr x = 63 - a - b)) (p + 14 + (b + 1)) := by
  have hw := way_three h0 x
  have hg : getV (S.drop p) s = if x ≠ 0 ∧ inB s x = false ∧ ld x = a ∧ tr x = 63 - a - b then some (s.2.1 ^^^ x, 14 + (b + 1)) else none := by
    unfold getV; rw [if_neg h0, h2]
    show (if (S.drop (p + 2)).length < 12 then none else _) = _
    rw [if_neg (by rw [List.length_drop]; omega), List.drop_drop, List.drop_drop, ha, hb, if_neg (by omega), if_neg (by rw [List.length_drop]; omega), show p + 2 + 12 = p + 14 by omega, ← hx]
  by_cases hc : wayN s x = 3 ∧ ld x = a ∧ tr x = 63 - a - b
  · rw [decide_eq_true hc]
    obtain ⟨c1, c2⟩ := hw.1 hc.1
    rw [if_pos ⟨c1, c2, hc.2⟩] at hg
    refine told_yes hg ?_ (by omega)
    unfold aftV
    rw [xor_fore, if_neg (by rintro (h | h | h); exact h0 h; exact c1 h; rw [c2] at h; cases h), hc.2.1, hc.2.2]
  · rw [decide_eq_false hc]
    rw [if_neg (fun h => hc ⟨hw.2 ⟨h.1, h.2.1⟩, h.2.2⟩)] at hg
    exact told_no hg
end
theorem RM.setField {w W : World} {br : Nat} {B : ByteArray} {p g1 g0 : Nat} {o1 : Obj} {cs cs' : Array Value} {t : TypeId} (h : RM w W br B p [(g1, o1), (g0, .cells cs t (0, 0))]) (hne : g1 ≠ g0) (i : Nat) (v : Value) (e : cs.setIfInBounds i v = cs') :
    RM w (W.setCell ⟨g0, i, none⟩ v) br B p [(g1, o1), (g0, .cells cs' t (0, 0))] := by
  have ho := h.own (g0, .cells cs t (0, 0)) (by simp)
  have h1 := h.own (g1, o1) (by simp)
  have hg0 : w.heap.size ≤ g0 := ho.2.1
  have hgr : g0 ≠ br := ho.2.2
  refine ⟨(heap_setCell_other W _ br v (Ne.symm hgr)).trans h.rd, fun x hx => ?_, fun j hj h3 => (heap_setCell_other W _ j v (by show j ≠ g0; omega)).trans (h.old j hj h3), by simp; exact h.size, h.os, h.tape, h.output⟩
  rcases List.mem_cons.1 hx with rfl | hx
  · exact ⟨(heap_setCell_other W _ g1 v hne).trans h1.1, h1.2⟩
  · rw [List.mem_singleton.1 hx, ← e]
    exact ⟨heap_setCell_same W g0 i cs t v ho.1, ho.2⟩
theorem _root_.Go.Proofs.YtdidengokijcjaaDoor.Tab.of_blocks {w W : World} (h : Tab w) (hb : ∀ k, k < w.heap.size → W.heap[k]? = w.heap[k]?) : Tab W := by
  intro j hj
  have h1 := h j hj
  exact (World.cell?_of_block (hb _ (World.block_lt_of_cell? w _ h1))).trans h1
theorem mul_wrap (a l t : Nat) (h : a < 2 ^ (64 - l - t)) (hlt : l + t ≤ 64) : IntKind.u64.wrap ((a : Int) * 2 ^ t) = ((a * 2 ^ t : Nat) : Int) := by
  have h1 := mul_pow_lt a l t h hlt
  rw [IntKind.wrap_u64, Int.natCast_mul, Int.natCast_pow]
  have h2 : ((a : Int) * ((2 : Nat) : Int) ^ t) = ((a * 2 ^ t : Nat) : Int) := by rw [Int.natCast_mul, Int.natCast_pow]
  show ((a : Int) * ((2 : Nat) : Int) ^ t) % _ = _
  rw [h2]; omega
theorem _root_.Go.Proofs.YtdidengokijcjaaDoor.BitsW.RM.get_someZ {w W : World} {br : Nat} {s : ByteArray} {p : Nat} {L : List (Nat × Obj)} (h : RM w W br s p L) (z : Int) (n : Nat) (hz : z = (n : Int)) (hn64 : n ≤ 64) (hs : s.size ≤ 68719476736) (hn : p + n ≤ 8 * s.size) :
    Calls Tryd.prog 92 #[.pointer (some ⟨br, 0, none⟩), .int .i64 z] W fun e W' => e = .returned (.tuple #[.int .u64 ((numB (((unpack s.data.toList).drop p).take n) : Nat) : Int), .bool true]) ∧ RM w W' br s (p + n) L := by
  subst hz; exact h.get_some n hn64 hs hn
theorem _root_.Go.Proofs.YtdidengokijcjaaDoor.BitsW.RM.get_noneZ {w W : World} {br : Nat} {s : ByteArray} {p : Nat} {L : List (Nat × Obj)} (h : RM w W br s p L) (z : Int) (n : Nat) (hz : z = (n : Int)) (hn64 : n ≤ 64) (hs : s.size ≤ 68719476736) (hp : p ≤ 8 * s.size) (hn : 8 * s.size < p + n) :
    Calls Tryd.prog 92 #[.pointer (some ⟨br, 0, none⟩), .int .i64 z] W fun e W' => e = .returned (.tuple #[.int .u64 0, .bool false]) ∧ RM w W' br s p L := by
  subst hz; exact h.get_none n hn64 hs hp hn
set_option maxHeartbeats 2000000 in
theorem get_first (br : Nat) (B : ByteArray) (p : Nat) (s : Sv) (w : World) (hr : ReaderAt w br B p) (hs : B.size ≤ 68719476736) (hp : p ≤ 8 * B.size) (hok : okV s) (hN : s.1 ≤ 4398046511104) (hT : ∀ W, (∀ k, k < w.heap.size → k ≠ br → W.heap[k]? = w.heap[k]?) → Tab W) (h0 : s.1 = 0) :
    Calls Tryd.prog 93 #[.pointer (some ⟨br, 0, none⟩), .agg #[.int .i64 (s.1 : Int), .int .u64 (s.2.1 : Int), .int .i64 (s.2.2.1 : Int), .int .i64 (s.2.2.2 : Int)]] w fun e w' => ∃ st ok q, e = .returned (.tuple #[.agg #[.int .i64 ((st : Sv).1 : Int), .int .u64 (st.2.1 : Int), .int .i64 (st.2.2.1 : Int), .int .i64 (st.2.2.2 : Int)], .bool ok]) ∧ ToldV (unpack B.data.toList) p s st ok q ∧ BitsW.Read w br B q w' := by
  have hSl : (unpack B.data.toList).length = 8 * B.size := by rw [unpack_length]; simp
  have HT1 := Lib.hid (fun h => told0 (S := unpack B.data.toList) (p := p) (s := s) h0 h)
  have HT2 := Lib.hid (fun st q h => told0n (S := unpack B.data.toList) (p := p) (s := s) (st := st) (q := q) h0 h)
  rw [hSl] at HT1 HT2
  clear hSl hT hok hN
  obtain ⟨N, V, L, T⟩ := s
  obtain rfl : N = 0 := h0
  have HP := Lib.hid (((RM.start hr).alloc (VaObj (0, V, L, T))).alloc (VaObj (0, 0, 0, 0)))
  rw [box_v] at HP
  clear hr
  go_enter Tryd.func93, Tryd.ntmps93
  go_wp2_with fail
  by_cases hl : p + 64 ≤ 8 * B.size
  · refine (HP.out.get_some 64 (by omega) hs hl).mono ?_
    rintro e w1 ⟨rfl, p1⟩
    have HP1 := Lib.hid p1
    clear p1 HP
    have HTT := Lib.hid (HT1.out hl)
    clear HT1 HT2
    generalize numB ((List.drop p (unpack B.data.toList)).take 64) = X at *
    have hbox : VaAt w1 w.heap.size (0, V, L, T) := HP1.out.at_ (by simp [VaObj])
    have k0 := hbox.c0
    have k1 := hbox.c1
    have k2 := hbox.c2
    have k3 := hbox.c3
    simp only [] at k0 k1 k2 k3
    have hres : VaAt w1 (w.heap.size + 1) (0, 0, 0, 0) := HP1.out.at_ (by simp)
    go_wp2_with (refine wpList_store_row rfl 106 _ _ rfl (w.heap.size + 1) #[.int .i64 1, .int .u64 (X : Int), .int .i64 (L : Int), .int .i64 (T : Int)] rfl rfl 106 _ hres info_va rfl (by simp [Value.oneCell']) ?_)
    have hr2 : (w1.setRow (w.heap.size + 1) #[.int .i64 1, .int .u64 (X : Int), .int .i64 (L : Int), .int .i64 (T : Int)]).heap[w.heap.size + 1]? = some (.cells #[.int .i64 1, .int .u64 (X : Int), .int .i64 (L : Int), .int .i64 (T : Int)] 106 (0, 0)) := setRow_heap w1 _ _ _ _ _ hres
    have r0 : (w1.setRow (w.heap.size + 1) #[.int .i64 1, .int .u64 (X : Int), .int .i64 (L : Int), .int .i64 (T : Int)]).cell? ⟨w.heap.size + 1, 0, none⟩ = #[.int .i64 1, .int .u64 (X : Int), .int .i64 (L : Int), .int .i64 (T : Int)][0]? := by rw [cell_of_row _ _ _ _ _ _ hr2]
    have r1 : (w1.setRow (w.heap.size + 1) #[.int .i64 1, .int .u64 (X : Int), .int .i64 (L : Int), .int .i64 (T : Int)]).cell? ⟨w.heap.size + 1, 1, none⟩ = #[.int .i64 1, .int .u64 (X : Int), .int .i64 (L : Int), .int .i64 (T : Int)][1]? := by rw [cell_of_row _ _ _ _ _ _ hr2]
    have r2 : (w1.setRow (w.heap.size + 1) #[.int .i64 1, .int .u64 (X : Int), .int .i64 (L : Int), .int .i64 (T : Int)]).cell? ⟨w.heap.size + 1, 2, none⟩ = #[.int .i64 1, .int .u64 (X : Int), .int .i64 (L : Int), .int .i64 (T : Int)][2]? := by rw [cell_of_row _ _ _ _ _ _ hr2]
    have r3 : (w1.setRow (w.heap.size + 1) #[.int .i64 1, .int .u64 (X : Int), .int .i64 (L : Int), .int .i64 (T : Int)]).cell? ⟨w.heap.size + 1, 3, none⟩ = #[.int .i64 1, .int .u64 (X : Int), .int .i64 (L : Int), .int .i64 (T : Int)][3]? := by rw [cell_of_row _ _ _ _ _ _ hr2]
    simp only [List.getElem?_toArray, List.getElem?_cons_zero, List.getElem?_cons_succ] at r0 r1 r2 r3
    refine bodyPost_ret (v := .tuple #[.agg #[.int .i64 1, .int .u64 (X : Int), .int .i64 (L : Int), .int .i64 (T : Int)], .bool true]) ?_ rfl ⟨(1, X, L, T), true, _, rfl, HTT.out, (HP1.out.setOwn (o := VaObj (0, 0, 0, 0)) (by simp) _).read⟩
    simp [results, Tryd.results93, go_sem, r0, r1, r2, r3]
  · refine (HP.out.get_none 64 (by omega) hs hp (by omega)).mono ?_
    rintro e w1 ⟨rfl, p1⟩
    have HP1 := Lib.hid p1
    clear p1 HP
    have HTT := Lib.hid (fun v q => HT2.out v q (by omega))
    clear HT1 HT2
    have hbox : VaAt w1 w.heap.size (0, V, L, T) := HP1.out.at_ (by simp [VaObj])
    have k0 := hbox.c0
    have k1 := hbox.c1
    have k2 := hbox.c2
    have k3 := hbox.c3
    simp only [] at k0 k1 k2 k3
    have hres : VaAt w1 (w.heap.size + 1) (0, 0, 0, 0) := HP1.out.at_ (by simp)
    go_wp2_with (refine wpList_store_row rfl 106 _ _ rfl (w.heap.size + 1) #[.int .i64 1, .int .u64 0, .int .i64 (L : Int), .int .i64 (T : Int)] rfl rfl 106 _ hres info_va rfl (by simp [Value.oneCell']) ?_)
    have hr2 : (w1.setRow (w.heap.size + 1) #[.int .i64 1, .int .u64 0, .int .i64 (L : Int), .int .i64 (T : Int)]).heap[w.heap.size + 1]? = some (.cells #[.int .i64 1, .int .u64 0, .int .i64 (L : Int), .int .i64 (T : Int)] 106 (0, 0)) := setRow_heap w1 _ _ _ _ _ hres
    have r0 : (w1.setRow (w.heap.size + 1) #[.int .i64 1, .int .u64 0, .int .i64 (L : Int), .int .i64 (T : Int)]).cell? ⟨w.heap.size + 1, 0, none⟩ = #[.int .i64 1, .int .u64 0, .int .i64 (L : Int), .int .i64 (T : Int)][0]? := by rw [cell_of_row _ _ _ _ _ _ hr2]
    have r1 : (w1.setRow (w.heap.size + 1) #[.int .i64 1, .int .u64 0, .int .i64 (L : Int), .int .i64 (T : Int)]).cell? ⟨w.heap.size + 1, 1, none⟩ = #[.int .i64 1, .int .u64 0, .int .i64 (L : Int), .int .i64 (T : Int)][1]? := by rw [cell_of_row _ _ _ _ _ _ hr2]
    have r2 : (w1.setRow (w.heap.size + 1) #[.int .i64 1, .int .u64 0, .int .i64 (L : Int), .int .i64 (T : Int)]).cell? ⟨w.heap.size + 1, 2, none⟩ = #[.int .i64 1, .int .u64 0, .int .i64 (L : Int), .int .i64 (T : Int)][2]? := by rw [cell_of_row _ _ _ _ _ _ hr2]
    have r3 : (w1.setRow (w.heap.size + 1) #[.int .i64 1, .int .u64 0, .int .i64 (L : Int), .int .i64 (T : Int)]).cell? ⟨w.heap.size + 1, 3, none⟩ = #[.int .i64 1, .int .u64 0, .int .i64 (L : Int), .int .i64 (T : Int)][3]? := by rw [cell_of_row _ _ _ _ _ _ hr2]
    simp only [List.getElem?_toArray, List.getElem?_cons_zero, List.getElem?_cons_succ] at r0 r1 r2 r3
    refine bodyPost_ret (v := .tuple #[.agg #[.int .i64 1, .int .u64 0, .int .i64 (L : Int), .int .i64 (T : Int)], .bool false]) ?_ rfl ⟨(1, 0, L, T), false, p, rfl, HTT.out _ _, (HP1.out.setOwn (o := VaObj (0, 0, 0, 0)) (by simp) _).read⟩
    simp [results, Tryd.results93, go_sem, r0, r1, r2, r3]
set_option maxHeartbeats 4000000 in
theorem get_more (br : Nat) (B : ByteArray) (p : Nat) (s : Sv) (w : World) (hr : ReaderAt w br B p) (hs : B.size ≤ 68719476736) (hp : p ≤ 8 * B.size) (hok : okV s) (hN : s.1 ≤ 4398046511104) (hT : ∀ W, (∀ k, k < w.heap.size → k ≠ br → W.heap[k]? = w.heap[k]?) → Tab W) (h0 : ¬ s.1 = 0) :
    Calls Tryd.prog 93 #[.pointer (some ⟨br, 0, none⟩), .agg #[.int .i64 (s.1 : Int), .int .u64 (s.2.1 : Int), .int .i64 (s.2.2.1 : Int), .int .i64 (s.2.2.2 : Int)]] w fun e w' => ∃ st ok q, e = .returned (.tuple #[.agg #[.int .i64 ((st : Sv).1 : Int), .int .u64 (st.2.1 : Int), .int .i64 (st.2.2.1 : Int), .int .i64 (st.2.2.2 : Int)], .bool ok]) ∧ ToldV (unpack B.data.toList) p s st ok q ∧ BitsW.Read w br B q w' := by
  obtain ⟨S, hS⟩ : ∃ S, unpack B.data.toList = S := ⟨_, rfl⟩
  have hSl : S.length = 8 * B.size := by rw [← hS, unpack_length]; simp
  rw [hS]
  have HSS := Lib.hid (And.intro hS hSl)
  have HE := Lib.hid (fun st q h => toldE (S := S) (p := p) (s := s) (st := st) (q := q) h0 h)
  have H00 := Lib.hid (fun h1 h2 => told00 (S := S) (p := p) (s := s) h0 h1 h2)
  have H1E := Lib.hid (fun st q h1 h2 h3 => told1E (S := S) (p := p) (s := s) (st := st) (q := q) h0 h1 h2 h3)
  have HIn := Lib.hid (fun st q h2 h3 h4 => toldIn (S := S) (p := p) (s := s) (st := st) (q := q) h0 h2 h3 h4)
  have HI := Lib.hid (fun x h2 h3 h4 => toldI (S := S) (p := p) (s := s) (x := x) h0 h2 h3 h4)
  have HNn := Lib.hid (fun st q h2 h3 => toldNn (S := S) (p := p) (s := s) (st := st) (q := q) h0 h2 h3)
  have HNneg := Lib.hid (fun st q a b h2 h3 h4 h5 h6 => toldN_neg (S := S) (p := p) (s := s) (st := st) (q := q) (a := a) (b := b) h0 h2 h3 h4 h5 h6)
  have HNn2 := Lib.hid (fun st q a b h2 h3 h4 h5 h6 h7 => toldN_n2 (S := S) (p := p) (s := s) (st := st) (q := q) (a := a) (b := b) h0 h2 h3 h4 h5 h6 h7)
  have HN2 := Lib.hid (fun a b x h2 h3 h4 h5 h6 h7 h8 => toldN (S := S) (p := p) (s := s) (a := a) (b := b) (x := x) h0 h2 h3 h4 h5 h6 h7 h8)
  have HOF := Lib.hid (fun x W hx h => of_any s x W hok hx h)
  have HTT : Hid (∀ W q L, RM w W br B q L → Tab W) := Lib.hid fun W q L h => hT W h.old
  have HV := Lib.hid hok.1
  have hLT := okW_size hok.2
  have hb0 : ((s.1 : Int) == 0) = false := by simp; omega
  obtain ⟨N, V, L, T⟩ := s
  have HP := Lib.hid (((RM.start hr).alloc (VaObj (N, V, L, T))).alloc (VaObj (0, 0, 0, 0)))
  rw [box_v] at HP
  simp only [] at hb0 hN hLT HV HOF HE H00 H1E HIn HI HNn HNneg HNn2 HN2 ⊢
  clear hr hS hSl h0 hT hok
  go_enter Tryd.func93, Tryd.ntmps93
  go_wp2_with fail
  by_cases he : p + 1 ≤ 8 * B.size
  · have hlen : p < S.length := by rw [HSS.out.2]; omega
    have hbit := one_bit hlen
    obtain ⟨b, hb⟩ : ∃ b, S[p]'hlen = b := ⟨_, rfl⟩
    rw [hb] at hbit
    have HB := Lib.hid (And.intro hbit (show ∃ h : p < S.length, S[p]'h = b from ⟨hlen, hb⟩))
    clear hlen hbit hb
    refine (HP.out.get_some 1 (by omega) hs he).mono ?_
    rintro e w1 ⟨rfl, p1⟩
    rw [HSS.out.1, HB.out.1]
    have HP1 := Lib.hid p1
    have hbox : VaAt w1 w.heap.size (N, V, L, T) := p1.at_ (by simp)
    have k0 := hbox.c0
    have k1 := hbox.c1
    have k2 := hbox.c2
    have k3 := hbox.c3
    simp only [] at k0 k1 k2 k3
    cases b with
    | false =>
      have HTT2 := Lib.hid (And.elim (fun _ h => Exists.elim h (fun h1 h2 => H00.out h1 h2)) HB.out)
      have hf0 : w1.frozen? ⟨w.heap.size, 0, none⟩ = false := frozen_of_row _ _ _ _ _ hbox
      have HP2 := Lib.hid (RM.setField (g1 := w.heap.size + 1) (cs := #[.int .i64 (N : Int), .int .u64 (V : Int), .int .i64 (L : Int), .int .i64 (T : Int)]) (cs' := #[.int .i64 ((N : Int) + 1), .int .u64 (V : Int), .int .i64 (L : Int), .int .i64 (T : Int)]) p1 (by omega) 0 (.int .i64 ((N : Int) + 1)) rfl)
      clear p1 hbox HP HP1 HB HE H00 H1E HIn HI HNn HNneg HNn2 HN2 HOF HTT
      have hres : VaAt (w1.setCell ⟨w.heap.size, 0, none⟩ (.int .i64 ((N : Int) + 1))) (w.heap.size + 1) (0, 0, 0, 0) := HP2.out.at_ (by simp)
      go_wp2_with (refine wpList_store_row rfl 106 _ _ rfl (w.heap.size + 1) #[.int .i64 ((N : Int) + 1), .int .u64 (V : Int), .int .i64 (L : Int), .int .i64 (T : Int)] rfl rfl 106 _ hres info_va rfl (by simp [Value.oneCell']) ?_)
      have hr2 : ((w1.setCell ⟨w.heap.size, 0, none⟩ (.int .i64 ((N : Int) + 1))).setRow (w.heap.size + 1) #[.int .i64 ((N : Int) + 1), .int .u64 (V : Int), .int .i64 (L : Int), .int .i64 (T : Int)]).heap[w.heap.size + 1]? = some (.cells #[.int .i64 ((N : Int) + 1), .int .u64 (V : Int), .int .i64 (L : Int), .int .i64 (T : Int)] 106 (0, 0)) := setRow_heap (w1.setCell ⟨w.heap.size, 0, none⟩ (.int .i64 ((N : Int) + 1))) _ _ _ _ _ hres
      have r0 : ((w1.setCell ⟨w.heap.size, 0, none⟩ (.int .i64 ((N : Int) + 1))).setRow (w.heap.size + 1) #[.int .i64 ((N : Int) + 1), .int .u64 (V : Int), .int .i64 (L : Int), .int .i64 (T : Int)]).cell? ⟨w.heap.size + 1, 0, none⟩ = #[.int .i64 ((N : Int) + 1), .int .u64 (V : Int), .int .i64 (L : Int), .int .i64 (T : Int)][0]? := by rw [cell_of_row _ _ _ _ _ _ hr2]
      have r1 : ((w1.setCell ⟨w.heap.size, 0, none⟩ (.int .i64 ((N : Int) + 1))).setRow (w.heap.size + 1) #[.int .i64 ((N : Int) + 1), .int .u64 (V : Int), .int .i64 (L : Int), .int .i64 (T : Int)]).cell? ⟨w.heap.size + 1, 1, none⟩ = #[.int .i64 ((N : Int) + 1), .int .u64 (V : Int), .int .i64 (L : Int), .int .i64 (T : Int)][1]? := by rw [cell_of_row _ _ _ _ _ _ hr2]
      have r2 : ((w1.setCell ⟨w.heap.size, 0, none⟩ (.int .i64 ((N : Int) + 1))).setRow (w.heap.size + 1) #[.int .i64 ((N : Int) + 1), .int .u64 (V : Int), .int .i64 (L : Int), .int .i64 (T : Int)]).cell? ⟨w.heap.size + 1, 2, none⟩ = #[.int .i64 ((N : Int) + 1), .int .u64 (V : Int), .int .i64 (L : Int), .int .i64 (T : Int)][2]? := by rw [cell_of_row _ _ _ _ _ _ hr2]
      have r3 : ((w1.setCell ⟨w.heap.size, 0, none⟩ (.int .i64 ((N : Int) + 1))).setRow (w.heap.size + 1) #[.int .i64 ((N : Int) + 1), .int .u64 (V : Int), .int .i64 (L : Int), .int .i64 (T : Int)]).cell? ⟨w.heap.size + 1, 3, none⟩ = #[.int .i64 ((N : Int) + 1), .int .u64 (V : Int), .int .i64 (L : Int), .int .i64 (T : Int)][3]? := by rw [cell_of_row _ _ _ _ _ _ hr2]
      simp only [List.getElem?_toArray, List.getElem?_cons_zero, List.getElem?_cons_succ] at r0 r1 r2 r3
      refine bodyPost_ret (v := .tuple #[.agg #[.int .i64 ((N : Int) + 1), .int .u64 (V : Int), .int .i64 (L : Int), .int .i64 (T : Int)], .bool true]) ?_ rfl ⟨(N + 1, V, L, T), true, _, rfl, HTT2.out, (HP2.out.setOwn (o := VaObj (0, 0, 0, 0)) (by simp) _).read⟩
      simp [results, Tryd.results93, go_sem, r0, r1, r2, r3]
    | true =>
      obtain ⟨h1, h2⟩ := HB.out.2
      have HB1 := Lib.hid (show ∃ h : p < S.length, S[p]'h = true from ⟨h1, h2⟩)
      clear p1 hbox HP HB HE H00 h2
      go_wp2_with fail
      by_cases he2 : p + 1 + 1 ≤ 8 * B.size
      · have hlen : p + 1 < S.length := by rw [HSS.out.2]; omega
        have hbit := one_bit hlen
        obtain ⟨b, hb⟩ : ∃ b, S[p + 1]'hlen = b := ⟨_, rfl⟩
        rw [hb] at hbit
        have HB := Lib.hid (And.intro hbit (show S.drop p = true :: b :: S.drop (p + 2) from Exists.elim HB1.out (fun q1 q2 => two_ahead q1 q2 hlen hb)))
        clear hlen hbit hb
        refine (HP1.out.get_some 1 (by omega) hs he2).mono ?_
        rintro e w2 ⟨rfl, p2⟩
        rw [HSS.out.1, HB.out.1]
        have HP2 := Lib.hid (show RM w w2 br B (p + 2) _ from p2)
        clear HP1 k0 k1 k2 k3
        have hbox : VaAt w2 w.heap.size (N, V, L, T) := p2.at_ (by simp)
        have k0 := hbox.c0
        have k1 := hbox.c1
        have k2 := hbox.c2
        have k3 := hbox.c3
        simp only [] at k0 k1 k2 k3
        clear p2 hbox H1E
        cases b with
        | false =>
          have HTA := Lib.hid (fun st q => HIn.out st q HB.out.2 (by rw [HSS.out.2]; omega))
          have HTB := Lib.hid (fun x => HI.out x HB.out.2)
          rw [HSS.out.2] at HTA HTB
          clear HIn HI HNn HNneg HNn2 HN2
          go_wp2_with fail
          go_quiet (fail)
          go_wp2_with fail
          by_cases hl : p + 2 + (64 - L - T) ≤ 8 * B.size
          · refine ((HP2.out.drewN _).get_someZ _ (64 - L - T) (by omega) (by omega) hs hl).mono ?_
            rintro e w3 ⟨rfl, p3⟩
            rw [HSS.out.1]
            have HP3 := Lib.hid p3
            clear HP2 k0 k1 k2 k3
            have hbox : VaAt w3 w.heap.size (N, V, L, T) := p3.at_ (by simp)
            have k0 := hbox.c0
            have k1 := hbox.c1
            have k2 := hbox.c2
            have k3 := hbox.c3
            simp only [] at k0 k1 k2 k3
            clear p3 hbox
            have hX := numB_take_lt (S.drop (p + 2)) (64 - L - T)
            obtain ⟨X, hXX⟩ : ∃ X, numB ((S.drop (p + 2)).take (64 - L - T)) = X := ⟨_, rfl⟩
            rw [hXX] at hX HTB
            rw [hXX]
            have hm := mul_wrap X L T hX hLT
            have hlt := mul_pow_lt X L T hX hLT
            have HTC := Lib.hid (HTB.out (X * 2 ^ T) hl rfl)
            clear hXX HTB HTA hX
            obtain ⟨x, hx⟩ : ∃ x, X * 2 ^ T = x := ⟨_, rfl⟩
            rw [hx] at hm hlt HTC
            have hm2 : IntKind.u64.wrap ((X : Int) * 2 ^ ((T : Nat) : Int).toNat) = (x : Int) := by rw [Int.toNat_natCast]; exact hm
            clear hx
            have hxr := bits_xor_u64_nat V x HV.out hlt
            go_wp2_with fail
            have HOX := Lib.hid (HOF.out x _ hlt (HTT.out _ _ _ HP3.out))
            have hw2 : wayN (N, V, L, T) x = 2 → wayL (N, V, L, T) x = L ∧ wayT (N, V, L, T) x = T := fun h => by
              unfold wayL wayT; rw [h]; exact ⟨rfl, rfl⟩
            have hwl : wayN (N, V, L, T) x ≤ 3 := by unfold wayN; (repeat' split) <;> omega
            generalize wayN (N, V, L, T) x = wn at *
            generalize wayL (N, V, L, T) x = wl at *
            generalize wayT (N, V, L, T) x = wt at *
            refine HOX.out.mono ?_
            rintro e w4 ⟨rfl, hb4⟩
            have HP4 := Lib.hid (HP3.out.below hb4)
            clear HOX hb4 HP3 HOF HTT k0 k1 k2 k3 hm hm2
            by_cases hc : wn = 2
            · obtain ⟨e1, e2⟩ := hw2 hc
              have q0 : ((wn : Int) != 2) = false := by simp [hc]
              have q1 : ((wl : Int) != (L : Int)) = false := by simp [e1]
              have q2 : ((wt : Int) != (T : Int)) = false := by simp [e2]
              have HTT2 := HTC.out
              rw [decide_eq_true hc] at HTT2
              have HTT2 := Lib.hid HTT2
              clear hc e1 e2 hw2 hwl HTC
              have hbox : VaAt w4 w.heap.size (N, V, L, T) := HP4.out.at_ (by simp [VaObj])
              have k0 := hbox.c0
              have k1 := hbox.c1
              have k2 := hbox.c2
              have k3 := hbox.c3
              simp only [] at k0 k1 k2 k3
              have hres : VaAt w4 (w.heap.size + 1) (0, 0, 0, 0) := HP4.out.at_ (by simp)
              go_wp2_with (refine wpList_store_row rfl 106 _ _ rfl (w.heap.size + 1) #[.int .i64 ((N : Int) + 1), .int .u64 ((V ^^^ x : Nat) : Int), .int .i64 (L : Int), .int .i64 (T : Int)] rfl rfl 106 _ hres info_va rfl (by simp [Value.oneCell']) ?_)
              have hr2 : (w4.setRow (w.heap.size + 1) #[.int .i64 ((N : Int) + 1), .int .u64 ((V ^^^ x : Nat) : Int), .int .i64 (L : Int), .int .i64 (T : Int)]).heap[w.heap.size + 1]? = some (.cells #[.int .i64 ((N : Int) + 1), .int .u64 ((V ^^^ x : Nat) : Int), .int .i64 (L : Int), .int .i64 (T : Int)] 106 (0, 0)) := setRow_heap w4 _ _ _ _ _ hres
              have r0 : (w4.setRow (w.heap.size + 1) #[.int .i64 ((N : Int) + 1), .int .u64 ((V ^^^ x : Nat) : Int), .int .i64 (L : Int), .int .i64 (T : Int)]).cell? ⟨w.heap.size + 1, 0, none⟩ = #[.int .i64 ((N : Int) + 1), .int .u64 ((V ^^^ x : Nat) : Int), .int .i64 (L : Int), .int .i64 (T : Int)][0]? := by rw [cell_of_row _ _ _ _ _ _ hr2]
              have r1 : (w4.setRow (w.heap.size + 1) #[.int .i64 ((N : Int) + 1), .int .u64 ((V ^^^ x : Nat) : Int), .int .i64 (L : Int), .int .i64 (T : Int)]).cell? ⟨w.heap.size + 1, 1, none⟩ = #[.int .i64 ((N : Int) + 1), .int .u64 ((V ^^^ x : Nat) : Int), .int .i64 (L : Int), .int .i64 (T : Int)][1]? := by rw [cell_of_row _ _ _ _ _ _ hr2]
              have r2 : (w4.setRow (w.heap.size + 1) #[.int .i64 ((N : Int) + 1), .int .u64 ((V ^^^ x : Nat) : Int), .int .i64 (L : Int), .int .i64 (T : Int)]).cell? ⟨w.heap.size + 1, 2, none⟩ = #[.int .i64 ((N : Int) + 1), .int .u64 ((V ^^^ x : Nat) : Int), .int .i64 (L : Int), .int .i64 (T : Int)][2]? := by rw [cell_of_row _ _ _ _ _ _ hr2]
              have r3 : (w4.setRow (w.heap.size + 1) #[.int .i64 ((N : Int) + 1), .int .u64 ((V ^^^ x : Nat) : Int), .int .i64 (L : Int), .int .i64 (T : Int)]).cell? ⟨w.heap.size + 1, 3, none⟩ = #[.int .i64 ((N : Int) + 1), .int .u64 ((V ^^^ x : Nat) : Int), .int .i64 (L : Int), .int .i64 (T : Int)][3]? := by rw [cell_of_row _ _ _ _ _ _ hr2]
              simp only [List.getElem?_toArray, List.getElem?_cons_zero, List.getElem?_cons_succ] at r0 r1 r2 r3
              refine bodyPost_ret (v := .tuple #[.agg #[.int .i64 ((N : Int) + 1), .int .u64 ((V ^^^ x : Nat) : Int), .int .i64 (L : Int), .int .i64 (T : Int)], .bool true]) ?_ rfl ⟨(N + 1, V ^^^ x, L, T), true, _, rfl, HTT2.out, (HP4.out.setOwn (o := VaObj (0, 0, 0, 0)) (by simp) _).read⟩
              simp [results, Tryd.results93, go_sem, r0, r1, r2, r3]
            · have q0 : ((wn : Int) != 2) = true := by simp; omega
              have HTT2 := HTC.out
              rw [decide_eq_false hc] at HTT2
              have HTT2 := Lib.hid HTT2
              clear hc hw2 hwl HTC
              have hbox : VaAt w4 w.heap.size (N, V, L, T) := HP4.out.at_ (by simp [VaObj])
              have k0 := hbox.c0
              have k1 := hbox.c1
              have k2 := hbox.c2
              have k3 := hbox.c3
              simp only [] at k0 k1 k2 k3
              have hres : VaAt w4 (w.heap.size + 1) (0, 0, 0, 0) := HP4.out.at_ (by simp)
              go_wp2_with (refine wpList_store_row rfl 106 _ _ rfl (w.heap.size + 1) #[.int .i64 (N : Int), .int .u64 (V : Int), .int .i64 (L : Int), .int .i64 (T : Int)] rfl rfl 106 _ hres info_va rfl (by simp [Value.oneCell']) ?_)
              have hr2 : (w4.setRow (w.heap.size + 1) #[.int .i64 (N : Int), .int .u64 (V : Int), .int .i64 (L : Int), .int .i64 (T : Int)]).heap[w.heap.size + 1]? = some (.cells #[.int .i64 (N : Int), .int .u64 (V : Int), .int .i64 (L : Int), .int .i64 (T : Int)] 106 (0, 0)) := setRow_heap w4 _ _ _ _ _ hres
              have r0 : (w4.setRow (w.heap.size + 1) #[.int .i64 (N : Int), .int .u64 (V : Int), .int .i64 (L : Int), .int .i64 (T : Int)]).cell? ⟨w.heap.size + 1, 0, none⟩ = #[.int .i64 (N : Int), .int .u64 (V : Int), .int .i64 (L : Int), .int .i64 (T : Int)][0]? := by rw [cell_of_row _ _ _ _ _ _ hr2]
              have r1 : (w4.setRow (w.heap.size + 1) #[.int .i64 (N : Int), .int .u64 (V : Int), .int .i64 (L : Int), .int .i64 (T : Int)]).cell? ⟨w.heap.size + 1, 1, none⟩ = #[.int .i64 (N : Int), .int .u64 (V : Int), .int .i64 (L : Int), .int .i64 (T : Int)][1]? := by rw [cell_of_row _ _ _ _ _ _ hr2]
              have r2 : (w4.setRow (w.heap.size + 1) #[.int .i64 (N : Int), .int .u64 (V : Int), .int .i64 (L : Int), .int .i64 (T : Int)]).cell? ⟨w.heap.size + 1, 2, none⟩ = #[.int .i64 (N : Int), .int .u64 (V : Int), .int .i64 (L : Int), .int .i64 (T : Int)][2]? := by rw [cell_of_row _ _ _ _ _ _ hr2]
              have r3 : (w4.setRow (w.heap.size + 1) #[.int .i64 (N : Int), .int .u64 (V : Int), .int .i64 (L : Int), .int .i64 (T : Int)]).cell? ⟨w.heap.size + 1, 3, none⟩ = #[.int .i64 (N : Int), .int .u64 (V : Int), .int .i64 (L : Int), .int .i64 (T : Int)][3]? := by rw [cell_of_row _ _ _ _ _ _ hr2]
              simp only [List.getElem?_toArray, List.getElem?_cons_zero, List.getElem?_cons_succ] at r0 r1 r2 r3
              refine bodyPost_ret (v := .tuple #[.agg #[.int .i64 (N : Int), .int .u64 (V : Int), .int .i64 (L : Int), .int .i64 (T : Int)], .bool false]) ?_ rfl ⟨(N, V, L, T), false, _, rfl, (show ToldV S p (N, V, L, T) (N, V, L, T) false _ from (told_any HTT2.out)), (HP4.out.setOwn (o := VaObj (0, 0, 0, 0)) (by simp) _).read⟩
              simp [results, Tryd.results93, go_sem, r0, r1, r2, r3]
          · refine ((HP2.out.drewN _).get_noneZ _ (64 - L - T) (by omega) (by omega) hs (by omega) (by omega)).mono ?_
            rintro e w3 ⟨rfl, p3⟩
            have HP3 := Lib.hid p3
            clear HP2 k0 k1 k2 k3
            have hbox : VaAt w3 w.heap.size (N, V, L, T) := p3.at_ (by simp)
            have k0 := hbox.c0
            have k1 := hbox.c1
            have k2 := hbox.c2
            have k3 := hbox.c3
            simp only [] at k0 k1 k2 k3
            have HTT2 := Lib.hid (fun st q => HTA.out st q (by omega))
            clear p3 hbox HTA HTB
            go_wp2_with fail
            refine (HOF.out 0 _ (by omega) (HTT.out _ _ _ HP3.out)).mono ?_
            rintro e w4 ⟨rfl, hb4⟩
            have HP4 := Lib.hid (HP3.out.below hb4)
            clear hb4 HP3 HOF HTT k0 k1 k2 k3
            have hbox : VaAt w4 w.heap.size (N, V, L, T) := HP4.out.at_ (by simp [VaObj])
            have k0 := hbox.c0
            have k1 := hbox.c1
            have k2 := hbox.c2
            have k3 := hbox.c3
            simp only [] at k0 k1 k2 k3
            have hres : VaAt w4 (w.heap.size + 1) (0, 0, 0, 0) := HP4.out.at_ (by simp)
            go_wp2_with (refine wpList_store_row rfl 106 _ _ rfl (w.heap.size + 1) #[.int .i64 (N : Int), .int .u64 (V : Int), .int .i64 (L : Int), .int .i64 (T : Int)] rfl rfl 106 _ hres info_va rfl (by simp [Value.oneCell']) ?_)
            have hr2 : (w4.setRow (w.heap.size + 1) #[.int .i64 (N : Int), .int .u64 (V : Int), .int .i64 (L : Int), .int .i64 (T : Int)]).heap[w.heap.size + 1]? = some (.cells #[.int .i64 (N : Int), .int .u64 (V : Int), .int .i64 (L : Int), .int .i64 (T : Int)] 106 (0, 0)) := setRow_heap w4 _ _ _ _ _ hres
            have r0 : (w4.setRow (w.heap.size + 1) #[.int .i64 (N : Int), .int .u64 (V : Int), .int .i64 (L : Int), .int .i64 (T : Int)]).cell? ⟨w.heap.size + 1, 0, none⟩ = #[.int .i64 (N : Int), .int .u64 (V : Int), .int .i64 (L : Int), .int .i64 (T : Int)][0]? := by rw [cell_of_row _ _ _ _ _ _ hr2]
            have r1 : (w4.setRow (w.heap.size + 1) #[.int .i64 (N : Int), .int .u64 (V : Int), .int .i64 (L : Int), .int .i64 (T : Int)]).cell? ⟨w.heap.size + 1, 1, none⟩ = #[.int .i64 (N : Int), .int .u64 (V : Int), .int .i64 (L : Int), .int .i64 (T : Int)][1]? := by rw [cell_of_row _ _ _ _ _ _ hr2]
            have r2 : (w4.setRow (w.heap.size + 1) #[.int .i64 (N : Int), .int .u64 (V : Int), .int .i64 (L : Int), .int .i64 (T : Int)]).cell? ⟨w.heap.size + 1, 2, none⟩ = #[.int .i64 (N : Int), .int .u64 (V : Int), .int .i64 (L : Int), .int .i64 (T : Int)][2]? := by rw [cell_of_row _ _ _ _ _ _ hr2]
            have r3 : (w4.setRow (w.heap.size + 1) #[.int .i64 (N : Int), .int .u64 (V : Int), .int .i64 (L : Int), .int .i64 (T : Int)]).cell? ⟨w.heap.size + 1, 3, none⟩ = #[.int .i64 (N : Int), .int .u64 (V : Int), .int .i64 (L : Int), .int .i64 (T : Int)][3]? := by rw [cell_of_row _ _ _ _ _ _ hr2]
            simp only [List.getElem?_toArray, List.getElem?_cons_zero, List.getElem?_cons_succ] at r0 r1 r2 r3
            refine bodyPost_ret (v := .tuple #[.agg #[.int .i64 (N : Int), .int .u64 (V : Int), .int .i64 (L : Int), .int .i64 (T : Int)], .bool false]) ?_ rfl ⟨(N, V, L, T), false, _, rfl, HTT2.out _ _, (HP4.out.setOwn (o := VaObj (0, 0, 0, 0)) (by simp) _).read⟩
            simp [results, Tryd.results93, go_sem, r0, r1, r2, r3]
        | true =>
          have HTA := Lib.hid (fun st q => HNn.out st q HB.out.2)
          rw [HSS.out.2] at HTA
          clear HIn HI HNn
          go_wp2_with fail
          go_quiet (fail)
          go_wp2_with fail
          by_cases hl6 : p + 2 + 6 ≤ 8 * B.size
          · refine ((HP2.out.drewN _).get_some 6 (by omega) hs hl6).mono ?_
            rintro e w3 ⟨rfl, p3⟩
            rw [HSS.out.1]
            have HP3 := Lib.hid p3
            have hA := numB_take_lt (S.drop (p + 2)) 6
            obtain ⟨a, ha⟩ : ∃ a, numB ((S.drop (p + 2)).take 6) = a := ⟨_, rfl⟩
            rw [ha] at hA ⊢
            have hA : a < 64 := hA
            have HA := Lib.hid ha
            clear HP2 k0 k1 k2 k3 p3 ha
            go_wp2_with fail
            by_cases hl12 : p + 2 + 6 + 6 ≤ 8 * B.size
            · refine (HP3.out.get_some 6 (by omega) hs hl12).mono ?_
              rintro e w4 ⟨rfl, p4⟩
              rw [HSS.out.1]
              have HP4 := Lib.hid p4
              have hB := numB_take_lt (S.drop (p + 2 + 6)) 6
              obtain ⟨b, hb⟩ : ∃ b, numB ((S.drop (p + 2 + 6)).take 6) = b := ⟨_, rfl⟩
              rw [hb] at hB ⊢
              have hB : b < 64 := hB
              have HBB := Lib.hid hb
              have hbox : VaAt w4 w.heap.size (N, V, L, T) := p4.at_ (by simp)
              have k0 := hbox.c0
              have k1 := hbox.c1
              have k2 := hbox.c2
              have k3 := hbox.c3
              simp only [] at k0 k1 k2 k3
              clear HP3 p4 hb hbox
              by_cases hn : 63 < a + b
              · have HTT2 := Lib.hid (fun st q => HNneg.out st q a b HB.out.2 HA.out HBB.out (by rw [HSS.out.2]; omega) hn)
                clear HNneg HNn2 HN2 HOF HTT HTA
                clear k0 k1 k2 k3
                have hbox : VaAt w4 w.heap.size (N, V, L, T) := HP4.out.at_ (by simp [VaObj])
                have k0 := hbox.c0
                have k1 := hbox.c1
                have k2 := hbox.c2
                have k3 := hbox.c3
                simp only [] at k0 k1 k2 k3
                have hres : VaAt w4 (w.heap.size + 1) (0, 0, 0, 0) := HP4.out.at_ (by simp)
                go_wp2_with (refine wpList_store_row rfl 106 _ _ rfl (w.heap.size + 1) #[.int .i64 (N : Int), .int .u64 (V : Int), .int .i64 (L : Int), .int .i64 (T : Int)] rfl rfl 106 _ hres info_va rfl (by simp [Value.oneCell']) ?_)
                have hr2 : (w4.setRow (w.heap.size + 1) #[.int .i64 (N : Int), .int .u64 (V : Int), .int .i64 (L : Int), .int .i64 (T : Int)]).heap[w.heap.size + 1]? = some (.cells #[.int .i64 (N : Int), .int .u64 (V : Int), .int .i64 (L : Int), .int .i64 (T : Int)] 106 (0, 0)) := setRow_heap w4 _ _ _ _ _ hres
                have r0 : (w4.setRow (w.heap.size + 1) #[.int .i64 (N : Int), .int .u64 (V : Int), .int .i64 (L : Int), .int .i64 (T : Int)]).cell? ⟨w.heap.size + 1, 0, none⟩ = #[.int .i64 (N : Int), .int .u64 (V : Int), .int .i64 (L : Int), .int .i64 (T : Int)][0]? := by rw [cell_of_row _ _ _ _ _ _ hr2]
                have r1 : (w4.setRow (w.heap.size + 1) #[.int .i64 (N : Int), .int .u64 (V : Int), .int .i64 (L : Int), .int .i64 (T : Int)]).cell? ⟨w.heap.size + 1, 1, none⟩ = #[.int .i64 (N : Int), .int .u64 (V : Int), .int .i64 (L : Int), .int .i64 (T : Int)][1]? := by rw [cell_of_row _ _ _ _ _ _ hr2]
                have r2 : (w4.setRow (w.heap.size + 1) #[.int .i64 (N : Int), .int .u64 (V : Int), .int .i64 (L : Int), .int .i64 (T : Int)]).cell? ⟨w.heap.size + 1, 2, none⟩ = #[.int .i64 (N : Int), .int .u64 (V : Int), .int .i64 (L : Int), .int .i64 (T : Int)][2]? := by rw [cell_of_row _ _ _ _ _ _ hr2]
                have r3 : (w4.setRow (w.heap.size + 1) #[.int .i64 (N : Int), .int .u64 (V : Int), .int .i64 (L : Int), .int .i64 (T : Int)]).cell? ⟨w.heap.size + 1, 3, none⟩ = #[.int .i64 (N : Int), .int .u64 (V : Int), .int .i64 (L : Int), .int .i64 (T : Int)][3]? := by rw [cell_of_row _ _ _ _ _ _ hr2]
                simp only [List.getElem?_toArray, List.getElem?_cons_zero, List.getElem?_cons_succ] at r0 r1 r2 r3
                refine bodyPost_ret (v := .tuple #[.agg #[.int .i64 (N : Int), .int .u64 (V : Int), .int .i64 (L : Int), .int .i64 (T : Int)], .bool false]) ?_ rfl ⟨(N, V, L, T), false, _, rfl, HTT2.out _ _, (HP4.out.setOwn (o := VaObj (0, 0, 0, 0)) (by simp) _).read⟩
                simp [results, Tryd.results93, go_sem, r0, r1, r2, r3]
              · have hn' : a + b ≤ 63 := by omega
                obtain ⟨t, ht⟩ : ∃ t : Nat, 63 - a - b = t := ⟨_, rfl⟩
                have HTN := Lib.hid (fun st q => HNn2.out st q a b HB.out.2 HA.out HBB.out (by rw [HSS.out.2]; omega) hn')
                have HTY := Lib.hid (fun x => HN2.out a b x HB.out.2 HA.out HBB.out (by rw [HSS.out.2]; omega) hn')
                rw [ht] at HTY
                rw [HSS.out.2] at HTN HTY
                have hti : 63 - (a : Int) - (b : Int) = (t : Int) := by omega
                have hab : a + t ≤ 64 := by omega
                clear HNneg HNn2 HN2 HTA hn
                go_wp2_with fail
                by_cases hl : p + 14 + (b + 1) ≤ 8 * B.size
                · refine ((show RM w w4 br B (p + 14) _ from HP4.out).get_someZ _ (b + 1) (by omega) (by omega) hs hl).mono ?_
                  rintro e w5 ⟨rfl, p5⟩
                  rw [HSS.out.1]
                  have HP5 := Lib.hid p5
                  clear HP4 k0 k1 k2 k3
                  have hbox : VaAt w5 w.heap.size (N, V, L, T) := p5.at_ (by simp)
                  have k0 := hbox.c0
                  have k1 := hbox.c1
                  have k2 := hbox.c2
                  have k3 := hbox.c3
                  simp only [] at k0 k1 k2 k3
                  clear p5 hbox
                  have hX := numB_take_lt (S.drop (p + 14)) (b + 1)
                  obtain ⟨X, hXX⟩ : ∃ X, numB ((S.drop (p + 14)).take (b + 1)) = X := ⟨_, rfl⟩
                  rw [hXX] at hX HTY
                  rw [hXX]
                  rw [show b + 1 = 64 - a - t by omega] at hX
                  have hm := mul_wrap X a t hX hab
                  have hlt := mul_pow_lt X a t hX hab
                  have HTC := Lib.hid (HTY.out (X * 2 ^ t) hl rfl)
                  clear hXX HTY HTN hX
                  obtain ⟨x, hx⟩ : ∃ x, X * 2 ^ t = x := ⟨_, rfl⟩
                  rw [hx] at hm hlt HTC
                  have hm2 : IntKind.u64.wrap ((X : Int) * 2 ^ ((t : Nat) : Int).toNat) = (x : Int) := by rw [Int.toNat_natCast]; exact hm
                  clear hx
                  have hxr := bits_xor_u64_nat V x HV.out hlt
                  go_wp2_with fail
                  have HOX := Lib.hid (HOF.out x _ hlt (HTT.out _ _ _ HP5.out))
                  have hw3 : wayN (N, V, L, T) x = 3 → wayL (N, V, L, T) x = ld x ∧ wayT (N, V, L, T) x = tr x := fun h => by
                    unfold wayL wayT; rw [h]; exact ⟨rfl, rfl⟩
                  generalize wayN (N, V, L, T) x = wn at *
                  generalize wayL (N, V, L, T) x = wl at *
                  generalize wayT (N, V, L, T) x = wt at *
                  generalize ld x = lx at *
                  generalize tr x = tx at *
                  refine HOX.out.mono ?_
                  rintro e w6 ⟨rfl, hb6⟩
                  have HP6 := Lib.hid (HP5.out.below hb6)
                  clear HOX hb6 HP5 HOF HTT k0 k1 k2 k3 hm hm2
                  by_cases hc : wn = 3
                  · obtain ⟨rfl, rfl⟩ := hw3 hc
                    have q0 : ((wn : Int) != 3) = false := by simp [hc]
                    by_cases hc1 : wl = a
                    · have q1 : ((wl : Int) != (a : Int)) = false := by simp [hc1]
                      by_cases hc2 : wt = t
                      · have q2 : ((wt : Int) != (t : Int)) = false := by simp [hc2]
                        have HTT2 := HTC.out
                        rw [decide_eq_true ⟨hc, hc1, hc2⟩] at HTT2
                        have HTT2 := Lib.hid HTT2
                        clear hc hc1 hc2 hw3 HTC
                        have hbox : VaAt w6 w.heap.size (N, V, L, T) := HP6.out.at_ (by simp [VaObj])
                        have k0 := hbox.c0
                        have k1 := hbox.c1
                        have k2 := hbox.c2
                        have k3 := hbox.c3
                        simp only [] at k0 k1 k2 k3
                        have hres : VaAt w6 (w.heap.size + 1) (0, 0, 0, 0) := HP6.out.at_ (by simp)
                        go_wp2_with (refine wpList_store_row rfl 106 _ _ rfl (w.heap.size + 1) #[.int .i64 ((N : Int) + 1), .int .u64 ((V ^^^ x : Nat) : Int), .int .i64 (a : Int), .int .i64 (t : Int)] rfl rfl 106 _ hres info_va rfl (by simp [Value.oneCell']) ?_)
                        have hr2 : (w6.setRow (w.heap.size + 1) #[.int .i64 ((N : Int) + 1), .int .u64 ((V ^^^ x : Nat) : Int), .int .i64 (a : Int), .int .i64 (t : Int)]).heap[w.heap.size + 1]? = some (.cells #[.int .i64 ((N : Int) + 1), .int .u64 ((V ^^^ x : Nat) : Int), .int .i64 (a : Int), .int .i64 (t : Int)] 106 (0, 0)) := setRow_heap w6 _ _ _ _ _ hres
                        have r0 : (w6.setRow (w.heap.size + 1) #[.int .i64 ((N : Int) + 1), .int .u64 ((V ^^^ x : Nat) : Int), .int .i64 (a : Int), .int .i64 (t : Int)]).cell? ⟨w.heap.size + 1, 0, none⟩ = #[.int .i64 ((N : Int) + 1), .int .u64 ((V ^^^ x : Nat) : Int), .int .i64 (a : Int), .int .i64 (t : Int)][0]? := by rw [cell_of_row _ _ _ _ _ _ hr2]
                        have r1 : (w6.setRow (w.heap.size + 1) #[.int .i64 ((N : Int) + 1), .int .u64 ((V ^^^ x : Nat) : Int), .int .i64 (a : Int), .int .i64 (t : Int)]).cell? ⟨w.heap.size + 1, 1, none⟩ = #[.int .i64 ((N : Int) + 1), .int .u64 ((V ^^^ x : Nat) : Int), .int .i64 (a : Int), .int .i64 (t : Int)][1]? := by rw [cell_of_row _ _ _ _ _ _ hr2]
                        have r2 : (w6.setRow (w.heap.size + 1) #[.int .i64 ((N : Int) + 1), .int .u64 ((V ^^^ x : Nat) : Int), .int .i64 (a : Int), .int .i64 (t : Int)]).cell? ⟨w.heap.size + 1, 2, none⟩ = #[.int .i64 ((N : Int) + 1), .int .u64 ((V ^^^ x : Nat) : Int), .int .i64 (a : Int), .int .i64 (t : Int)][2]? := by rw [cell_of_row _ _ _ _ _ _ hr2]
                        have r3 : (w6.setRow (w.heap.size + 1) #[.int .i64 ((N : Int) + 1), .int .u64 ((V ^^^ x : Nat) : Int), .int .i64 (a : Int), .int .i64 (t : Int)]).cell? ⟨w.heap.size + 1, 3, none⟩ = #[.int .i64 ((N : Int) + 1), .int .u64 ((V ^^^ x : Nat) : Int), .int .i64 (a : Int), .int .i64 (t : Int)][3]? := by rw [cell_of_row _ _ _ _ _ _ hr2]
                        simp only [List.getElem?_toArray, List.getElem?_cons_zero, List.getElem?_cons_succ] at r0 r1 r2 r3
                        refine bodyPost_ret (v := .tuple #[.agg #[.int .i64 ((N : Int) + 1), .int .u64 ((V ^^^ x : Nat) : Int), .int .i64 (a : Int), .int .i64 (t : Int)], .bool true]) ?_ rfl ⟨(N + 1, V ^^^ x, a, t), true, _, rfl, HTT2.out, (HP6.out.setOwn (o := VaObj (0, 0, 0, 0)) (by simp) _).read⟩
                        simp [results, Tryd.results93, go_sem, r0, r1, r2, r3]
                      · have q2 : ((wt : Int) != (t : Int)) = true := by simp; omega
                        have HTT2 := HTC.out
                        rw [decide_eq_false (fun h => hc2 h.2.2)] at HTT2
                        have HTT2 := Lib.hid HTT2
                        clear hw3 HTC
                        have hbox : VaAt w6 w.heap.size (N, V, L, T) := HP6.out.at_ (by simp [VaObj])
                        have k0 := hbox.c0
                        have k1 := hbox.c1
                        have k2 := hbox.c2
                        have k3 := hbox.c3
                        simp only [] at k0 k1 k2 k3
                        have hres : VaAt w6 (w.heap.size + 1) (0, 0, 0, 0) := HP6.out.at_ (by simp)
                        go_wp2_with (refine wpList_store_row rfl 106 _ _ rfl (w.heap.size + 1) #[.int .i64 (N : Int), .int .u64 (V : Int), .int .i64 (L : Int), .int .i64 (T : Int)] rfl rfl 106 _ hres info_va rfl (by simp [Value.oneCell']) ?_)
                        have hr2 : (w6.setRow (w.heap.size + 1) #[.int .i64 (N : Int), .int .u64 (V : Int), .int .i64 (L : Int), .int .i64 (T : Int)]).heap[w.heap.size + 1]? = some (.cells #[.int .i64 (N : Int), .int .u64 (V : Int), .int .i64 (L : Int), .int .i64 (T : Int)] 106 (0, 0)) := setRow_heap w6 _ _ _ _ _ hres
                        have r0 : (w6.setRow (w.heap.size + 1) #[.int .i64 (N : Int), .int .u64 (V : Int), .int .i64 (L : Int), .int .i64 (T : Int)]).cell? ⟨w.heap.size + 1, 0, none⟩ = #[.int .i64 (N : Int), .int .u64 (V : Int), .int .i64 (L : Int), .int .i64 (T : Int)][0]? := by rw [cell_of_row _ _ _ _ _ _ hr2]
                        have r1 : (w6.setRow (w.heap.size + 1) #[.int .i64 (N : Int), .int .u64 (V : Int), .int .i64 (L : Int), .int .i64 (T : Int)]).cell? ⟨w.heap.size + 1, 1, none⟩ = #[.int .i64 (N : Int), .int .u64 (V : Int), .int .i64 (L : Int), .int .i64 (T : Int)][1]? := by rw [cell_of_row _ _ _ _ _ _ hr2]
                        have r2 : (w6.setRow (w.heap.size + 1) #[.int .i64 (N : Int), .int .u64 (V : Int), .int .i64 (L : Int), .int .i64 (T : Int)]).cell? ⟨w.heap.size + 1, 2, none⟩ = #[.int .i64 (N : Int), .int .u64 (V : Int), .int .i64 (L : Int), .int .i64 (T : Int)][2]? := by rw [cell_of_row _ _ _ _ _ _ hr2]
                        have r3 : (w6.setRow (w.heap.size + 1) #[.int .i64 (N : Int), .int .u64 (V : Int), .int .i64 (L : Int), .int .i64 (T : Int)]).cell? ⟨w.heap.size + 1, 3, none⟩ = #[.int .i64 (N : Int), .int .u64 (V : Int), .int .i64 (L : Int), .int .i64 (T : Int)][3]? := by rw [cell_of_row _ _ _ _ _ _ hr2]
                        simp only [List.getElem?_toArray, List.getElem?_cons_zero, List.getElem?_cons_succ] at r0 r1 r2 r3
                        refine bodyPost_ret (v := .tuple #[.agg #[.int .i64 (N : Int), .int .u64 (V : Int), .int .i64 (L : Int), .int .i64 (T : Int)], .bool false]) ?_ rfl ⟨(N, V, L, T), false, _, rfl, (show ToldV S p (N, V, L, T) (N, V, L, T) false _ from (told_any HTT2.out)), (HP6.out.setOwn (o := VaObj (0, 0, 0, 0)) (by simp) _).read⟩
                        simp [results, Tryd.results93, go_sem, r0, r1, r2, r3]
                    · have q1 : ((wl : Int) != (a : Int)) = true := by simp; omega
                      have HTT2 := HTC.out
                      rw [decide_eq_false (fun h => hc1 h.2.1)] at HTT2
                      have HTT2 := Lib.hid HTT2
                      clear hw3 HTC
                      have hbox : VaAt w6 w.heap.size (N, V, L, T) := HP6.out.at_ (by simp [VaObj])
                      have k0 := hbox.c0
                      have k1 := hbox.c1
                      have k2 := hbox.c2
                      have k3 := hbox.c3
                      simp only [] at k0 k1 k2 k3
                      have hres : VaAt w6 (w.heap.size + 1) (0, 0, 0, 0) := HP6.out.at_ (by simp)
                      go_wp2_with (refine wpList_store_row rfl 106 _ _ rfl (w.heap.size + 1) #[.int .i64 (N : Int), .int .u64 (V : Int), .int .i64 (L : Int), .int .i64 (T : Int)] rfl rfl 106 _ hres info_va rfl (by simp [Value.oneCell']) ?_)
                      have hr2 : (w6.setRow (w.heap.size + 1) #[.int .i64 (N : Int), .int .u64 (V : Int), .int .i64 (L : Int), .int .i64 (T : Int)]).heap[w.heap.size + 1]? = some (.cells #[.int .i64 (N : Int), .int .u64 (V : Int), .int .i64 (L : Int), .int .i64 (T : Int)] 106 (0, 0)) := setRow_heap w6 _ _ _ _ _ hres
                      have r0 : (w6.setRow (w.heap.size + 1) #[.int .i64 (N : Int), .int .u64 (V : Int), .int .i64 (L : Int), .int .i64 (T : Int)]).cell? ⟨w.heap.size + 1, 0, none⟩ = #[.int .i64 (N : Int), .int .u64 (V : Int), .int .i64 (L : Int), .int .i64 (T : Int)][0]? := by rw [cell_of_row _ _ _ _ _ _ hr2]
                      have r1 : (w6.setRow (w.heap.size + 1) #[.int .i64 (N : Int), .int .u64 (V : Int), .int .i64 (L : Int), .int .i64 (T : Int)]).cell? ⟨w.heap.size + 1, 1, none⟩ = #[.int .i64 (N : Int), .int .u64 (V : Int), .int .i64 (L : Int), .int .i64 (T : Int)][1]? := by rw [cell_of_row _ _ _ _ _ _ hr2]
                      have r2 : (w6.setRow (w.heap.size + 1) #[.int .i64 (N : Int), .int .u64 (V : Int), .int .i64 (L : Int), .int .i64 (T : Int)]).cell? ⟨w.heap.size + 1, 2, none⟩ = #[.int .i64 (N : Int), .int .u64 (V : Int), .int .i64 (L : Int), .int .i64 (T : Int)][2]? := by rw [cell_of_row _ _ _ _ _ _ hr2]
                      have r3 : (w6.setRow (w.heap.size + 1) #[.int .i64 (N : Int), .int .u64 (V : Int), .int .i64 (L : Int), .int .i64 (T : Int)]).cell? ⟨w.heap.size + 1, 3, none⟩ = #[.int .i64 (N : Int), .int .u64 (V : Int), .int .i64 (L : Int), .int .i64 (T : Int)][3]? := by rw [cell_of_row _ _ _ _ _ _ hr2]
                      simp only [List.getElem?_toArray, List.getElem?_cons_zero, List.getElem?_cons_succ] at r0 r1 r2 r3
                      refine bodyPost_ret (v := .tuple #[.agg #[.int .i64 (N : Int), .int .u64 (V : Int), .int .i64 (L : Int), .int .i64 (T : Int)], .bool false]) ?_ rfl ⟨(N, V, L, T), false, _, rfl, (show ToldV S p (N, V, L, T) (N, V, L, T) false _ from (told_any HTT2.out)), (HP6.out.setOwn (o := VaObj (0, 0, 0, 0)) (by simp) _).read⟩
                      simp [results, Tryd.results93, go_sem, r0, r1, r2, r3]
                  · have q0 : ((wn : Int) != 3) = true := by simp; omega
                    have HTT2 := HTC.out
                    rw [decide_eq_false (fun h => hc h.1)] at HTT2
                    have HTT2 := Lib.hid HTT2
                    clear hw3 HTC
                    have hbox : VaAt w6 w.heap.size (N, V, L, T) := HP6.out.at_ (by simp [VaObj])
                    have k0 := hbox.c0
                    have k1 := hbox.c1
                    have k2 := hbox.c2
                    have k3 := hbox.c3
                    simp only [] at k0 k1 k2 k3
                    have hres : VaAt w6 (w.heap.size + 1) (0, 0, 0, 0) := HP6.out.at_ (by simp)
                    go_wp2_with (refine wpList_store_row rfl 106 _ _ rfl (w.heap.size + 1) #[.int .i64 (N : Int), .int .u64 (V : Int), .int .i64 (L : Int), .int .i64 (T : Int)] rfl rfl 106 _ hres info_va rfl (by simp [Value.oneCell']) ?_)
                    have hr2 : (w6.setRow (w.heap.size + 1) #[.int .i64 (N : Int), .int .u64 (V : Int), .int .i64 (L : Int), .int .i64 (T : Int)]).heap[w.heap.size + 1]? = some (.cells #[.int .i64 (N : Int), .int .u64 (V : Int), .int .i64 (L : Int), .int .i64 (T : Int)] 106 (0, 0)) := setRow_heap w6 _ _ _ _ _ hres
                    have r0 : (w6.setRow (w.heap.size + 1) #[.int .i64 (N : Int), .int .u64 (V : Int), .int .i64 (L : Int), .int .i64 (T : Int)]).cell? ⟨w.heap.size + 1, 0, none⟩ = #[.int .i64 (N : Int), .int .u64 (V : Int), .int .i64 (L : Int), .int .i64 (T : Int)][0]? := by rw [cell_of_row _ _ _ _ _ _ hr2]
                    have r1 : (w6.setRow (w.heap.size + 1) #[.int .i64 (N : Int), .int .u64 (V : Int), .int .i64 (L : Int), .int .i64 (T : Int)]).cell? ⟨w.heap.size + 1, 1, none⟩ = #[.int .i64 (N : Int), .int .u64 (V : Int), .int .i64 (L : Int), .int .i64 (T : Int)][1]? := by rw [cell_of_row _ _ _ _ _ _ hr2]
                    have r2 : (w6.setRow (w.heap.size + 1) #[.int .i64 (N : Int), .int .u64 (V : Int), .int .i64 (L : Int), .int .i64 (T : Int)]).cell? ⟨w.heap.size + 1, 2, none⟩ = #[.int .i64 (N : Int), .int .u64 (V : Int), .int .i64 (L : Int), .int .i64 (T : Int)][2]? := by rw [cell_of_row _ _ _ _ _ _ hr2]
                    have r3 : (w6.setRow (w.heap.size + 1) #[.int .i64 (N : Int), .int .u64 (V : Int), .int .i64 (L : Int), .int .i64 (T : Int)]).cell? ⟨w.heap.size + 1, 3, none⟩ = #[.int .i64 (N : Int), .int .u64 (V : Int), .int .i64 (L : Int), .int .i64 (T : Int)][3]? := by rw [cell_of_row _ _ _ _ _ _ hr2]
                    simp only [List.getElem?_toArray, List.getElem?_cons_zero, List.getElem?_cons_succ] at r0 r1 r2 r3
                    refine bodyPost_ret (v := .tuple #[.agg #[.int .i64 (N : Int), .int .u64 (V : Int), .int .i64 (L : Int), .int .i64 (T : Int)], .bool false]) ?_ rfl ⟨(N, V, L, T), false, _, rfl, (show ToldV S p (N, V, L, T) (N, V, L, T) false _ from (told_any HTT2.out)), (HP6.out.setOwn (o := VaObj (0, 0, 0, 0)) (by simp) _).read⟩
                    simp [results, Tryd.results93, go_sem, r0, r1, r2, r3]
                · refine ((show RM w w4 br B (p + 14) _ from HP4.out).get_noneZ _ (b + 1) (by omega) (by omega) hs (by omega) (by omega)).mono ?_
                  rintro e w5 ⟨rfl, p5⟩
                  have HP5 := Lib.hid p5
                  clear HP4 k0 k1 k2 k3
                  have hbox : VaAt w5 w.heap.size (N, V, L, T) := p5.at_ (by simp)
                  have k0 := hbox.c0
                  have k1 := hbox.c1
                  have k2 := hbox.c2
                  have k3 := hbox.c3
                  simp only [] at k0 k1 k2 k3
                  have HTT2 := Lib.hid (fun st q => HTN.out st q (by omega))
                  clear p5 hbox HTN HTY
                  go_wp2_with fail
                  refine (HOF.out 0 _ (by omega) (HTT.out _ _ _ HP5.out)).mono ?_
                  rintro e w6 ⟨rfl, hb6⟩
                  have HP6 := Lib.hid (HP5.out.below hb6)
                  clear hb6 HP5 HOF HTT k0 k1 k2 k3
                  have hbox : VaAt w6 w.heap.size (N, V, L, T) := HP6.out.at_ (by simp [VaObj])
                  have k0 := hbox.c0
                  have k1 := hbox.c1
                  have k2 := hbox.c2
                  have k3 := hbox.c3
                  simp only [] at k0 k1 k2 k3
                  have hres : VaAt w6 (w.heap.size + 1) (0, 0, 0, 0) := HP6.out.at_ (by simp)
                  go_wp2_with (refine wpList_store_row rfl 106 _ _ rfl (w.heap.size + 1) #[.int .i64 (N : Int), .int .u64 (V : Int), .int .i64 (L : Int), .int .i64 (T : Int)] rfl rfl 106 _ hres info_va rfl (by simp [Value.oneCell']) ?_)
                  have hr2 : (w6.setRow (w.heap.size + 1) #[.int .i64 (N : Int), .int .u64 (V : Int), .int .i64 (L : Int), .int .i64 (T : Int)]).heap[w.heap.size + 1]? = some (.cells #[.int .i64 (N : Int), .int .u64 (V : Int), .int .i64 (L : Int), .int .i64 (T : Int)] 106 (0, 0)) := setRow_heap w6 _ _ _ _ _ hres
                  have r0 : (w6.setRow (w.heap.size + 1) #[.int .i64 (N : Int), .int .u64 (V : Int), .int .i64 (L : Int), .int .i64 (T : Int)]).cell? ⟨w.heap.size + 1, 0, none⟩ = #[.int .i64 (N : Int), .int .u64 (V : Int), .int .i64 (L : Int), .int .i64 (T : Int)][0]? := by rw [cell_of_row _ _ _ _ _ _ hr2]
                  have r1 : (w6.setRow (w.heap.size + 1) #[.int .i64 (N : Int), .int .u64 (V : Int), .int .i64 (L : Int), .int .i64 (T : Int)]).cell? ⟨w.heap.size + 1, 1, none⟩ = #[.int .i64 (N : Int), .int .u64 (V : Int), .int .i64 (L : Int), .int .i64 (T : Int)][1]? := by rw [cell_of_row _ _ _ _ _ _ hr2]
                  have r2 : (w6.setRow (w.heap.size + 1) #[.int .i64 (N : Int), .int .u64 (V : Int), .int .i64 (L : Int), .int .i64 (T : Int)]).cell? ⟨w.heap.size + 1, 2, none⟩ = #[.int .i64 (N : Int), .int .u64 (V : Int), .int .i64 (L : Int), .int .i64 (T : Int)][2]? := by rw [cell_of_row _ _ _ _ _ _ hr2]
                  have r3 : (w6.setRow (w.heap.size + 1) #[.int .i64 (N : Int), .int .u64 (V : Int), .int .i64 (L : Int), .int .i64 (T : Int)]).cell? ⟨w.heap.size + 1, 3, none⟩ = #[.int .i64 (N : Int), .int .u64 (V : Int), .int .i64 (L : Int), .int .i64 (T : Int)][3]? := by rw [cell_of_row _ _ _ _ _ _ hr2]
                  simp only [List.getElem?_toArray, List.getElem?_cons_zero, List.getElem?_cons_succ] at r0 r1 r2 r3
                  refine bodyPost_ret (v := .tuple #[.agg #[.int .i64 (N : Int), .int .u64 (V : Int), .int .i64 (L : Int), .int .i64 (T : Int)], .bool false]) ?_ rfl ⟨(N, V, L, T), false, _, rfl, HTT2.out _ _, (HP6.out.setOwn (o := VaObj (0, 0, 0, 0)) (by simp) _).read⟩
                  simp [results, Tryd.results93, go_sem, r0, r1, r2, r3]
            · refine (HP3.out.get_none 6 (by omega) hs hl6 (by omega)).mono ?_
              rintro e w4 ⟨rfl, p4⟩
              have HP4 := Lib.hid p4
              have HTT2 := Lib.hid (fun st q => HTA.out st q (by omega))
              clear HP3 p4 HNneg HNn2 HN2 HOF HTT HTA
              have hbox : VaAt w4 w.heap.size (N, V, L, T) := HP4.out.at_ (by simp [VaObj])
              have k0 := hbox.c0
              have k1 := hbox.c1
              have k2 := hbox.c2
              have k3 := hbox.c3
              simp only [] at k0 k1 k2 k3
              have hres : VaAt w4 (w.heap.size + 1) (0, 0, 0, 0) := HP4.out.at_ (by simp)
              go_wp2_with (refine wpList_store_row rfl 106 _ _ rfl (w.heap.size + 1) #[.int .i64 (N : Int), .int .u64 (V : Int), .int .i64 (L : Int), .int .i64 (T : Int)] rfl rfl 106 _ hres info_va rfl (by simp [Value.oneCell']) ?_)
              have hr2 : (w4.setRow (w.heap.size + 1) #[.int .i64 (N : Int), .int .u64 (V : Int), .int .i64 (L : Int), .int .i64 (T : Int)]).heap[w.heap.size + 1]? = some (.cells #[.int .i64 (N : Int), .int .u64 (V : Int), .int .i64 (L : Int), .int .i64 (T : Int)] 106 (0, 0)) := setRow_heap w4 _ _ _ _ _ hres
              have r0 : (w4.setRow (w.heap.size + 1) #[.int .i64 (N : Int), .int .u64 (V : Int), .int .i64 (L : Int), .int .i64 (T : Int)]).cell? ⟨w.heap.size + 1, 0, none⟩ = #[.int .i64 (N : Int), .int .u64 (V : Int), .int .i64 (L : Int), .int .i64 (T : Int)][0]? := by rw [cell_of_row _ _ _ _ _ _ hr2]
              have r1 : (w4.setRow (w.heap.size + 1) #[.int .i64 (N : Int), .int .u64 (V : Int), .int .i64 (L : Int), .int .i64 (T : Int)]).cell? ⟨w.heap.size + 1, 1, none⟩ = #[.int .i64 (N : Int), .int .u64 (V : Int), .int .i64 (L : Int), .int .i64 (T : Int)][1]? := by rw [cell_of_row _ _ _ _ _ _ hr2]
              have r2 : (w4.setRow (w.heap.size + 1) #[.int .i64 (N : Int), .int .u64 (V : Int), .int .i64 (L : Int), .int .i64 (T : Int)]).cell? ⟨w.heap.size + 1, 2, none⟩ = #[.int .i64 (N : Int), .int .u64 (V : Int), .int .i64 (L : Int), .int .i64 (T : Int)][2]? := by rw [cell_of_row _ _ _ _ _ _ hr2]
              have r3 : (w4.setRow (w.heap.size + 1) #[.int .i64 (N : Int), .int .u64 (V : Int), .int .i64 (L : Int), .int .i64 (T : Int)]).cell? ⟨w.heap.size + 1, 3, none⟩ = #[.int .i64 (N : Int), .int .u64 (V : Int), .int .i64 (L : Int), .int .i64 (T : Int)][3]? := by rw [cell_of_row _ _ _ _ _ _ hr2]
              simp only [List.getElem?_toArray, List.getElem?_cons_zero, List.getElem?_cons_succ] at r0 r1 r2 r3
              refine bodyPost_ret (v := .tuple #[.agg #[.int .i64 (N : Int), .int .u64 (V : Int), .int .i64 (L : Int), .int .i64 (T : Int)], .bool false]) ?_ rfl ⟨(N, V, L, T), false, _, rfl, HTT2.out _ _, (HP4.out.setOwn (o := VaObj (0, 0, 0, 0)) (by simp) _).read⟩
              simp [results, Tryd.results93, go_sem, r0, r1, r2, r3]
          · refine ((HP2.out.drewN _).get_none 6 (by omega) hs (by omega) (by omega)).mono ?_
            rintro e w3 ⟨rfl, p3⟩
            have HP3 := Lib.hid p3
            have HTT2 := Lib.hid (fun st q => HTA.out st q (by omega))
            clear HP2 k0 k1 k2 k3 p3 HNneg HNn2 HN2 HOF HTT HTA
            go_wp2_with fail
            refine (HP3.out.get_none 6 (by omega) hs (by omega) (by omega)).mono ?_
            rintro e w4 ⟨rfl, p4⟩
            have HP4 := Lib.hid p4
            clear HP3 p4
            have hbox : VaAt w4 w.heap.size (N, V, L, T) := HP4.out.at_ (by simp [VaObj])
            have k0 := hbox.c0
            have k1 := hbox.c1
            have k2 := hbox.c2
            have k3 := hbox.c3
            simp only [] at k0 k1 k2 k3
            have hres : VaAt w4 (w.heap.size + 1) (0, 0, 0, 0) := HP4.out.at_ (by simp)
            go_wp2_with (refine wpList_store_row rfl 106 _ _ rfl (w.heap.size + 1) #[.int .i64 (N : Int), .int .u64 (V : Int), .int .i64 (L : Int), .int .i64 (T : Int)] rfl rfl 106 _ hres info_va rfl (by simp [Value.oneCell']) ?_)
            have hr2 : (w4.setRow (w.heap.size + 1) #[.int .i64 (N : Int), .int .u64 (V : Int), .int .i64 (L : Int), .int .i64 (T : Int)]).heap[w.heap.size + 1]? = some (.cells #[.int .i64 (N : Int), .int .u64 (V : Int), .int .i64 (L : Int), .int .i64 (T : Int)] 106 (0, 0)) := setRow_heap w4 _ _ _ _ _ hres
            have r0 : (w4.setRow (w.heap.size + 1) #[.int .i64 (N : Int), .int .u64 (V : Int), .int .i64 (L : Int), .int .i64 (T : Int)]).cell? ⟨w.heap.size + 1, 0, none⟩ = #[.int .i64 (N : Int), .int .u64 (V : Int), .int .i64 (L : Int), .int .i64 (T : Int)][0]? := by rw [cell_of_row _ _ _ _ _ _ hr2]
            have r1 : (w4.setRow (w.heap.size + 1) #[.int .i64 (N : Int), .int .u64 (V : Int), .int .i64 (L : Int), .int .i64 (T : Int)]).cell? ⟨w.heap.size + 1, 1, none⟩ = #[.int .i64 (N : Int), .int .u64 (V : Int), .int .i64 (L : Int), .int .i64 (T : Int)][1]? := by rw [cell_of_row _ _ _ _ _ _ hr2]
            have r2 : (w4.setRow (w.heap.size + 1) #[.int .i64 (N : Int), .int .u64 (V : Int), .int .i64 (L : Int), .int .i64 (T : Int)]).cell? ⟨w.heap.size + 1, 2, none⟩ = #[.int .i64 (N : Int), .int .u64 (V : Int), .int .i64 (L : Int), .int .i64 (T : Int)][2]? := by rw [cell_of_row _ _ _ _ _ _ hr2]
            have r3 : (w4.setRow (w.heap.size + 1) #[.int .i64 (N : Int), .int .u64 (V : Int), .int .i64 (L : Int), .int .i64 (T : Int)]).cell? ⟨w.heap.size + 1, 3, none⟩ = #[.int .i64 (N : Int), .int .u64 (V : Int), .int .i64 (L : Int), .int .i64 (T : Int)][3]? := by rw [cell_of_row _ _ _ _ _ _ hr2]
            simp only [List.getElem?_toArray, List.getElem?_cons_zero, List.getElem?_cons_succ] at r0 r1 r2 r3
            refine bodyPost_ret (v := .tuple #[.agg #[.int .i64 (N : Int), .int .u64 (V : Int), .int .i64 (L : Int), .int .i64 (T : Int)], .bool false]) ?_ rfl ⟨(N, V, L, T), false, _, rfl, HTT2.out _ _, (HP4.out.setOwn (o := VaObj (0, 0, 0, 0)) (by simp) _).read⟩
            simp [results, Tryd.results93, go_sem, r0, r1, r2, r3]
      · have HTT2 := Lib.hid (fun st q => Exists.elim HB1.out (fun q1 q2 => H1E.out st q q1 q2 (by rw [HSS.out.2]; omega)))
        refine (HP1.out.get_none 1 (by omega) hs he (by omega)).mono ?_
        rintro e w2 ⟨rfl, p2⟩
        have HP2 := Lib.hid p2
        clear p2 HP1 H1E HIn HI HNn HNneg HNn2 HN2 HOF HTT k0 k1 k2 k3
        have hbox : VaAt w2 w.heap.size (N, V, L, T) := HP2.out.at_ (by simp [VaObj])
        have k0 := hbox.c0
        have k1 := hbox.c1
        have k2 := hbox.c2
        have k3 := hbox.c3
        simp only [] at k0 k1 k2 k3
        have hres : VaAt w2 (w.heap.size + 1) (0, 0, 0, 0) := HP2.out.at_ (by simp)
        go_wp2_with (refine wpList_store_row rfl 106 _ _ rfl (w.heap.size + 1) #[.int .i64 (N : Int), .int .u64 (V : Int), .int .i64 (L : Int), .int .i64 (T : Int)] rfl rfl 106 _ hres info_va rfl (by simp [Value.oneCell']) ?_)
        have hr2 : (w2.setRow (w.heap.size + 1) #[.int .i64 (N : Int), .int .u64 (V : Int), .int .i64 (L : Int), .int .i64 (T : Int)]).heap[w.heap.size + 1]? = some (.cells #[.int .i64 (N : Int), .int .u64 (V : Int), .int .i64 (L : Int), .int .i64 (T : Int)] 106 (0, 0)) := setRow_heap w2 _ _ _ _ _ hres
        have r0 : (w2.setRow (w.heap.size + 1) #[.int .i64 (N : Int), .int .u64 (V : Int), .int .i64 (L : Int), .int .i64 (T : Int)]).cell? ⟨w.heap.size + 1, 0, none⟩ = #[.int .i64 (N : Int), .int .u64 (V : Int), .int .i64 (L : Int), .int .i64 (T : Int)][0]? := by rw [cell_of_row _ _ _ _ _ _ hr2]
        have r1 : (w2.setRow (w.heap.size + 1) #[.int .i64 (N : Int), .int .u64 (V : Int), .int .i64 (L : Int), .int .i64 (T : Int)]).cell? ⟨w.heap.size + 1, 1, none⟩ = #[.int .i64 (N : Int), .int .u64 (V : Int), .int .i64 (L : Int), .int .i64 (T : Int)][1]? := by rw [cell_of_row _ _ _ _ _ _ hr2]
        have r2 : (w2.setRow (w.heap.size + 1) #[.int .i64 (N : Int), .int .u64 (V : Int), .int .i64 (L : Int), .int .i64 (T : Int)]).cell? ⟨w.heap.size + 1, 2, none⟩ = #[.int .i64 (N : Int), .int .u64 (V : Int), .int .i64 (L : Int), .int .i64 (T : Int)][2]? := by rw [cell_of_row _ _ _ _ _ _ hr2]
        have r3 : (w2.setRow (w.heap.size + 1) #[.int .i64 (N : Int), .int .u64 (V : Int), .int .i64 (L : Int), .int .i64 (T : Int)]).cell? ⟨w.heap.size + 1, 3, none⟩ = #[.int .i64 (N : Int), .int .u64 (V : Int), .int .i64 (L : Int), .int .i64 (T : Int)][3]? := by rw [cell_of_row _ _ _ _ _ _ hr2]
        simp only [List.getElem?_toArray, List.getElem?_cons_zero, List.getElem?_cons_succ] at r0 r1 r2 r3
        refine bodyPost_ret (v := .tuple #[.agg #[.int .i64 (N : Int), .int .u64 (V : Int), .int .i64 (L : Int), .int .i64 (T : Int)], .bool false]) ?_ rfl ⟨(N, V, L, T), false, _, rfl, HTT2.out _ _, (HP2.out.setOwn (o := VaObj (0, 0, 0, 0)) (by simp) _).read⟩
        simp [results, Tryd.results93, go_sem, r0, r1, r2, r3]
  · have HTT2 := Lib.hid (fun st q => HE.out st q (by rw [HSS.out.2]; omega))
    refine (HP.out.get_none 1 (by omega) hs hp (by omega)).mono ?_
    rintro e w1 ⟨rfl, p1⟩
    have HP1 := Lib.hid p1
    clear p1 HP HE H00 H1E HIn HI HNn HNneg HNn2 HN2 HOF HTT
    have hbox : VaAt w1 w.heap.size (N, V, L, T) := HP1.out.at_ (by simp [VaObj])
    have k0 := hbox.c0
    have k1 := hbox.c1
    have k2 := hbox.c2
    have k3 := hbox.c3
    simp only [] at k0 k1 k2 k3
    have hres : VaAt w1 (w.heap.size + 1) (0, 0, 0, 0) := HP1.out.at_ (by simp)
    go_wp2_with (refine wpList_store_row rfl 106 _ _ rfl (w.heap.size + 1) #[.int .i64 (N : Int), .int .u64 (V : Int), .int .i64 (L : Int), .int .i64 (T : Int)] rfl rfl 106 _ hres info_va rfl (by simp [Value.oneCell']) ?_)
    have hr2 : (w1.setRow (w.heap.size + 1) #[.int .i64 (N : Int), .int .u64 (V : Int), .int .i64 (L : Int), .int .i64 (T : Int)]).heap[w.heap.size + 1]? = some (.cells #[.int .i64 (N : Int), .int .u64 (V : Int), .int .i64 (L : Int), .int .i64 (T : Int)] 106 (0, 0)) := setRow_heap w1 _ _ _ _ _ hres
    have r0 : (w1.setRow (w.heap.size + 1) #[.int .i64 (N : Int), .int .u64 (V : Int), .int .i64 (L : Int), .int .i64 (T : Int)]).cell? ⟨w.heap.size + 1, 0, none⟩ = #[.int .i64 (N : Int), .int .u64 (V : Int), .int .i64 (L : Int), .int .i64 (T : Int)][0]? := by rw [cell_of_row _ _ _ _ _ _ hr2]
    have r1 : (w1.setRow (w.heap.size + 1) #[.int .i64 (N : Int), .int .u64 (V : Int), .int .i64 (L : Int), .int .i64 (T : Int)]).cell? ⟨w.heap.size + 1, 1, none⟩ = #[.int .i64 (N : Int), .int .u64 (V : Int), .int .i64 (L : Int), .int .i64 (T : Int)][1]? := by rw [cell_of_row _ _ _ _ _ _ hr2]
    have r2 : (w1.setRow (w.heap.size + 1) #[.int .i64 (N : Int), .int .u64 (V : Int), .int .i64 (L : Int), .int .i64 (T : Int)]).cell? ⟨w.heap.size + 1, 2, none⟩ = #[.int .i64 (N : Int), .int .u64 (V : Int), .int .i64 (L : Int), .int .i64 (T : Int)][2]? := by rw [cell_of_row _ _ _ _ _ _ hr2]
    have r3 : (w1.setRow (w.heap.size + 1) #[.int .i64 (N : Int), .int .u64 (V : Int), .int .i64 (L : Int), .int .i64 (T : Int)]).cell? ⟨w.heap.size + 1, 3, none⟩ = #[.int .i64 (N : Int), .int .u64 (V : Int), .int .i64 (L : Int), .int .i64 (T : Int)][3]? := by rw [cell_of_row _ _ _ _ _ _ hr2]
    simp only [List.getElem?_toArray, List.getElem?_cons_zero, List.getElem?_cons_succ] at r0 r1 r2 r3
    refine bodyPost_ret (v := .tuple #[.agg #[.int .i64 (N : Int), .int .u64 (V : Int), .int .i64 (L : Int), .int .i64 (T : Int)], .bool false]) ?_ rfl ⟨(N, V, L, T), false, _, rfl, HTT2.out _ _, (HP1.out.setOwn (o := VaObj (0, 0, 0, 0)) (by simp) _).read⟩
    simp [results, Tryd.results93, go_sem, r0, r1, r2, r3]
end Go.Proofs.YtdidengokijcjaaDoor.VaW
