/-
  match.Between, Without, Sorted: THE WALKS.
-/
import Derived.Test.YtdacefmcnjoboaaMatRef
import Derived.Deep.Onto
namespace Go.Proofs.Ytdacefmcnjoboaa.LabW
open Go.RowKit Go.Shelf LabM
def insideB (f t : Int) (x : Sam) : Bool := decide (f ≤ x.1) && decide (x.1 ≤ t)
theorem between1_any (x : Sam) (f t : Int) (bf bt : Nat) (W : World) (hf : W.cell? ⟨bf, 0, none⟩ = some (.int .i64 f)) (ht : W.cell? ⟨bt, 0, none⟩ = some (.int .i64 t)) :
    Calls Try.prog 40 (#[.agg #[.int .i64 x.1, .int .u64 x.2]] ++ #[.pointer (some ⟨bf, 0, none⟩), .pointer (some ⟨bt, 0, none⟩)]) W fun e W' => e = .returned (.bool (insideB f t x)) ∧ Below W.heap.size W W' := by
  obtain ⟨x1, x2⟩ := x
  have hb1 : bf < W.heap.size := World.block_lt_of_cell? W _ hf
  have hb2 : bt < W.heap.size := World.block_lt_of_cell? W _ ht
  show Calls Try.prog 40 #[.agg #[.int .i64 x1, .int .u64 x2], .pointer (some ⟨bf, 0, none⟩), .pointer (some ⟨bt, 0, none⟩)] W _
  unfold insideB
  simp only []
  by_cases h1 : f ≤ x1
  · have hd : decide (f ≤ x1) = true := decide_eq_true h1
    rw [hd, Bool.true_and]
    clear hd
    go_enter Try.func40, Try.ntmps40
    go_wp2_with fail
    go_ret
    exact ⟨rfl, (Below.refl _ _).alloc (Nat.le_refl _) _⟩
  · have hd : decide (f ≤ x1) = false := decide_eq_false h1
    rw [hd, Bool.false_and]
    clear hd
    go_enter Try.func40, Try.ntmps40
    go_wp2_with fail
    go_ret
    exact ⟨rfl, (Below.refl _ _).alloc (Nat.le_refl _) _⟩
theorem without1_any (x : Sam) (f t : Int) (bf bt : Nat) (W : World) (hf : W.cell? ⟨bf, 0, none⟩ = some (.int .i64 f)) (ht : W.cell? ⟨bt, 0, none⟩ = some (.int .i64 t)) :
    Calls Try.prog 41 (#[.agg #[.int .i64 x.1, .int .u64 x.2]] ++ #[.pointer (some ⟨bf, 0, none⟩), .pointer (some ⟨bt, 0, none⟩)]) W fun e W' => e = .returned (.bool (!insideB f t x)) ∧ Below W.heap.size W W' := by
  obtain ⟨x1, x2⟩ := x
  have hb1 : bf < W.heap.size := World.block_lt_of_cell? W _ hf
  have hb2 : bt < W.heap.size := World.block_lt_of_cell? W _ ht
  show Calls Try.prog 41 #[.agg #[.int .i64 x1, .int .u64 x2], .pointer (some ⟨bf, 0, none⟩), .pointer (some ⟨bt, 0, none⟩)] W _
  by_cases h1 : x1 < f
  · have hd : insideB f t (x1, x2) = false := by unfold insideB; rw [decide_eq_false (by omega)]; rfl
    rw [hd]
    clear hd
    go_enter Try.func41, Try.ntmps41
    go_wp2_with fail
    go_ret
    exact ⟨rfl, (Below.refl _ _).alloc (Nat.le_refl _) _⟩
  · have hd : (!insideB f t (x1, x2)) = decide (t < x1) := by
      unfold insideB
      rw [decide_eq_true (p := f ≤ x1) (by omega), Bool.true_and, ← decide_not, decide_eq_decide]
      omega
    rw [hd]
    clear hd
    go_enter Try.func41, Try.ntmps41
    go_wp2_with fail
    go_ret
    exact ⟨rfl, (Below.refl _ _).alloc (Nat.le_refl _) _⟩
theorem between_any (A : Option Addr) (n c : Nat) (l : List Sam) (f t : Int) (w : World) (hl : Comes w 2 encS okS A n c l) (hn : n ≤ 1000000) :
    Calls Try.prog 22 #[.slice A n c, .int .i64 f, .int .i64 t] w fun e w' => ∃ v, e = .returned v ∧ w'.ownsRow w.heap.size 52 2 v (l.filter (insideB f t)).length ((l.filter (insideB f t)).flatMap encS) ∧ Below w.heap.size w w' := by
  have HL := Lib.hid hl
  clear hl
  go_enter Try.func22, Try.ntmps22
  go_wp2_with fail
  obtain ⟨w0, hw0⟩ : ∃ w0, (w.alloc (.cells #[.int .i64 f] 2)).alloc (.cells #[.int .i64 t] 2) = w0 := ⟨_, rfl⟩
  have hb0 : Below w.heap.size w w0 := by rw [← hw0]; exact ((Below.refl _ _).alloc (Nat.le_refl _) _).alloc (by simp) _
  have hc0 : w0.heap[w.heap.size]? = some (.cells #[.int .i64 f] 2 (0, 0)) := by rw [← hw0]; exact heap_alloc2_old _ _ _
  have hc1 : w0.heap[w.heap.size + 1]? = some (.cells #[.int .i64 t] 2 (0, 0)) := by rw [← hw0]; exact heap_alloc2_new _ _ _
  have hd0 : w0.cell? ⟨w.heap.size, 0, none⟩ = some (.int .i64 f) := by rw [cell_of_row w0 _ _ _ _ _ hc0]; rfl
  have hd1 : w0.cell? ⟨w.heap.size + 1, 0, none⟩ = some (.int .i64 t) := by rw [cell_of_row w0 _ _ _ _ _ hc1]; rfl
  rw [hw0]
  have HC := Lib.hid (And.intro hb0 (And.intro hd0 hd1))
  clear hw0 hb0 hc0 hc1 hd0 hd1
  refine (pickS_any 40 #[.pointer (some ⟨w.heap.size, 0, none⟩), .pointer (some ⟨w.heap.size + 1, 0, none⟩)] (insideB f t) (enters_of Try.func40 (by kernel_rfl) rfl) A n c l _ (HL.out.later HC.out.1) hn
    (fun x hx W hW => between1_any x f t _ _ W ((hW.cell (p := ⟨w.heap.size, 0, none⟩) (World.block_lt_of_cell? w0 _ HC.out.2.1)).trans HC.out.2.1) ((hW.cell (p := ⟨w.heap.size + 1, 0, none⟩) (World.block_lt_of_cell? w0 _ HC.out.2.2)).trans HC.out.2.2))).mono ?_
  rintro e w2 ⟨v, rfl, hown, hb2⟩
  have HB2 := Lib.hid (And.intro (hown.mono HC.out.1.size) (later HC.out.1 hb2))
  clear hown hb2
  go_wp2_with fail
  go_ret
  exact ⟨_, rfl, HB2.out.1, HB2.out.2⟩
theorem without_any (A : Option Addr) (n c : Nat) (l : List Sam) (f t : Int) (w : World) (hl : Comes w 2 encS okS A n c l) (hn : n ≤ 1000000) :
    Calls Try.prog 23 #[.slice A n c, .int .i64 f, .int .i64 t] w fun e w' => ∃ v, e = .returned v ∧ w'.ownsRow w.heap.size 52 2 v (l.filter (fun x => !insideB f t x)).length ((l.filter (fun x => !insideB f t x)).flatMap encS) ∧ Below w.heap.size w w' := by
  have HL := Lib.hid hl
  clear hl
  go_enter Try.func23, Try.ntmps23
  go_wp2_with fail
  obtain ⟨w0, hw0⟩ : ∃ w0, (w.alloc (.cells #[.int .i64 f] 2)).alloc (.cells #[.int .i64 t] 2) = w0 := ⟨_, rfl⟩
  have hb0 : Below w.heap.size w w0 := by rw [← hw0]; exact ((Below.refl _ _).alloc (Nat.le_refl _) _).alloc (by simp) _
  have hc0 : w0.heap[w.heap.size]? = some (.cells #[.int .i64 f] 2 (0, 0)) := by rw [← hw0]; exact heap_alloc2_old _ _ _
  have hc1 : w0.heap[w.heap.size + 1]? = some (.cells #[.int .i64 t] 2 (0, 0)) := by rw [← hw0]; exact heap_alloc2_new _ _ _
  have hd0 : w0.cell? ⟨w.heap.size, 0, none⟩ = some (.int .i64 f) := by rw [cell_of_row w0 _ _ _ _ _ hc0]; rfl
  have hd1 : w0.cell? ⟨w.heap.size + 1, 0, none⟩ = some (.int .i64 t) := by rw [cell_of_row w0 _ _ _ _ _ hc1]; rfl
  rw [hw0]
  have HC := Lib.hid (And.intro hb0 (And.intro hd0 hd1))
  clear hw0 hb0 hc0 hc1 hd0 hd1
  refine (pickS_any 41 #[.pointer (some ⟨w.heap.size, 0, none⟩), .pointer (some ⟨w.heap.size + 1, 0, none⟩)] (fun x => !insideB f t x) (enters_of Try.func41 (by kernel_rfl) rfl) A n c l _ (HL.out.later HC.out.1) hn
    (fun x hx W hW => without1_any x f t _ _ W ((hW.cell (p := ⟨w.heap.size, 0, none⟩) (World.block_lt_of_cell? w0 _ HC.out.2.1)).trans HC.out.2.1) ((hW.cell (p := ⟨w.heap.size + 1, 0, none⟩) (World.block_lt_of_cell? w0 _ HC.out.2.2)).trans HC.out.2.2))).mono ?_
  rintro e w2 ⟨v, rfl, hown, hb2⟩
  have HB2 := Lib.hid (And.intro (hown.mono HC.out.1.size) (later HC.out.1 hb2))
  clear hown hb2
  go_wp2_with fail
  go_ret
  exact ⟨_, rfl, HB2.out.1, HB2.out.2⟩
/-- Do times rise? -/
def sortedL : List Sam → Bool
  | [] => true
  | [_] => true
  | x :: y :: l => decide (x.1 < y.1) && sortedL (y :: l)
theorem sortedL_at (l : List Sam) (k : Nat) (h : k + 1 < l.length) : sortedL (l.drop k) = (decide (l[k].1 < l[k + 1].1) && sortedL (l.drop (k + 1))) := by
  rw [List.drop_eq_getElem_cons (by omega : k < l.length), List.drop_eq_getElem_cons h, sortedL]
theorem sortedL_at2 (l : List Sam) (p k : Nat) (hk : k = p + 1) (h : k < l.length) (hp : p < l.length) : sortedL (l.drop p) = (decide (l[p].1 < l[k].1) && sortedL (l.drop k)) := by
  subst hk; exact sortedL_at l p h
theorem sortedL_end (l : List Sam) (k : Nat) (h : l.length ≤ k + 1) : sortedL (l.drop k) = true := by
  have hl : (l.drop k).length ≤ 1 := by rw [List.length_drop]; omega
  match l.drop k, hl with
  | [], _ => rfl
  | [_], _ => rfl
set_option maxHeartbeats 2000000 in
theorem sorted_any (A : Option Addr) (n c : Nat) (l : List Sam) (w : World) (hl : Comes w 2 encS okS A n c l) :
    Calls Try.prog 26 #[.slice A n c] w fun e w' => e = .returned (.bool (sortedL l)) ∧ Below w.heap.size w w' := by
  have HL := Lib.hid hl
  have hcap : c ≤ 9223372036854775807 := hl.cap
  have hle := hl.le
  clear hl
  go_enter Try.func26, Try.ntmps26
  go_wp2_with fail
  go_loopw [6] (fun v6 wr => ∃ k : Nat, k ≤ n ∧ v6 = .int .i64 k ∧ sortedL l = sortedL (l.drop (k - 1)) ∧ Below w.heap.size w wr) (fun v6 _ => n - (intOf v6).toNat)
  case atStart => exact ⟨0, Nat.zero_le _, rfl, rfl, Below.refl _ _⟩
  case round =>
    obtain ⟨k, hk, rfl, hs, ho⟩ := hrel
    have hln := HL.out.len
    by_cases hlt : k < n
    · have hkl : k < l.length := by omega
      obtain ⟨b, o, rfl, hcs⟩ := S_cells HL.out.lies hkl
      obtain ⟨hc0, hc1⟩ := hcs _ ho
      have HO := Lib.hid ho
      by_cases h0 : k = 0
      · have HS := Lib.hid hs
        clear ho hln hcs hs hc0 hc1
        subst h0
        go_wp2_with fail
        go_quiet (fail)
        go_wp2_with fail
        go_roundw
        case rel => exact ⟨1, by omega, rfl, HS.out, HO.out.trans ⟨rfl, rfl, rfl, Nat.le_refl _, fun _ _ => rfl⟩⟩
        case measure => simp [intOf]; omega
      · obtain ⟨p, hp⟩ : ∃ p, k = p + 1 := ⟨k - 1, by omega⟩
        obtain ⟨b2, o2, hA2, hcs2⟩ := S_cells HL.out.lies (show p < l.length by omega)
        obtain ⟨rfl, rfl⟩ : b = b2 ∧ o = o2 := by injection hA2 with hA2; injection hA2 with e1 e2; exact ⟨e1, e2⟩
        obtain ⟨hd0, hd1⟩ := hcs2 _ ho
        rw [show k - 1 = p by omega, sortedL_at2 l p k hp hkl (by omega)] at hs
        generalize l[p]'(by omega) = y at *
        generalize l[k] = x at *
        obtain ⟨x1, x2⟩ := x
        obtain ⟨y1, y2⟩ := y
        simp only [] at hc0 hd0 hs
        have HS := Lib.hid (And.intro hs hp)
        have i0 : (0 : Int) < (k : Int) := by omega
        have i0' : 0 < k := by omega
        have i1 : (k : Int) < (n : Int) := by omega
        have i3 : (0 : Int) ≤ (p : Int) := by omega
        have i4 : (p : Int) < (n : Int) := by omega
        have i2 : IntKind.i64.wrap ((k : Int) - 1) = (p : Int) := by rw [show (k : Int) - 1 = (p : Int) by omega]; exact IntWalk.i64_in _ (by omega)
        clear ho hln hcs hs hcs2 hA2 hc1 hd1 hp h0
        by_cases hyx : y1 < x1
        · have hge : ¬ x1 ≤ y1 := by omega
          have hged : decide (x1 ≤ y1) = false := decide_eq_false hge
          go_wp2_with fail
          go_quiet (fail)
          go_wp2_with fail
          go_roundw
          case rel => exact ⟨k + 1, by omega, by go_num, by rw [HS.out.1, decide_eq_true hyx, Bool.true_and, Nat.add_sub_cancel], HO.out.trans ⟨rfl, rfl, rfl, Nat.le_refl _, fun _ _ => rfl⟩⟩
          case measure => simp [intOf]; omega
        · have hge : x1 ≤ y1 := by omega
          have hged : decide (x1 ≤ y1) = true := decide_eq_true hge
          go_wp2_with fail
          go_quiet (fail)
          go_wp2_with fail
          go_ret
          exact ⟨by rw [HS.out.1, decide_eq_false (show ¬ y1 < x1 by omega)]; rfl, HO.out.trans ⟨rfl, rfl, rfl, Nat.le_refl _, fun _ _ => rfl⟩⟩
    · obtain rfl : k = n := by omega
      rw [sortedL_end l _ (by omega)] at hs
      have HO := Lib.hid (And.intro ho hs)
      clear ho hs
      go_wp2_with fail
      go_ret
      exact ⟨by rw [HO.out.2]; rfl, HO.out.1⟩
set_option maxHeartbeats 2000000 in
theorem rsorted_any (A : Option Addr) (n c : Nat) (l : List Sam) (w : World) (hl : Comes w 2 encS okS A n c l) :
    Calls Try.prog 27 #[.slice A n c] w fun e w' => e = .returned (.bool (sortedL l)) ∧ Below w.heap.size w w' := by
  have HL := Lib.hid hl
  have hcap : c ≤ 9223372036854775807 := hl.cap
  have hle := hl.le
  clear hl
  go_enter Try.func27, Try.ntmps27
  go_wp2_with fail
  go_loopw [3] (fun v3 wr => ∃ p : Nat, p ≤ n ∧ v3 = .int .i64 ((p : Int) + 1) ∧ sortedL l = sortedL (l.drop p) ∧ Below w.heap.size w wr) (fun v3 _ => n + 1 - (intOf v3).toNat)
  case atStart => exact ⟨0, Nat.zero_le _, rfl, rfl, Below.refl _ _⟩
  case round =>
    obtain ⟨p, hp, rfl, hs, ho⟩ := hrel
    have hln := HL.out.len
    by_cases hlt : p + 1 < n
    · obtain ⟨k, hk⟩ : ∃ k, p + 1 = k := ⟨_, rfl⟩
      have hki : (p : Int) + 1 = (k : Int) := by omega
      obtain ⟨b, o, rfl, hcs⟩ := S_cells HL.out.lies (show k < l.length by omega)
      obtain ⟨hc0, hc1⟩ := hcs _ ho
      have HO := Lib.hid ho
      obtain ⟨b2, o2, hA2, hcs2⟩ := S_cells HL.out.lies (show p < l.length by omega)
      obtain ⟨rfl, rfl⟩ : b = b2 ∧ o = o2 := by injection hA2 with hA2; injection hA2 with e1 e2; exact ⟨e1, e2⟩
      obtain ⟨hd0, hd1⟩ := hcs2 _ ho
      rw [sortedL_at2 l p k hk.symm (by omega) (by omega)] at hs
      generalize l[p]'(by omega) = y at *
      generalize l[k]'(by omega) = x at *
      obtain ⟨x1, x2⟩ := x
      obtain ⟨y1, y2⟩ := y
      simp only [] at hc0 hd0 hs
      rw [hki]
      have HS := Lib.hid (And.intro hs (And.intro hk hki))
      have i1 : (k : Int) < (n : Int) := by omega
      have i0 : (0 : Int) ≤ (k : Int) := by omega
      have i3 : (0 : Int) ≤ (p : Int) := by omega
      have i4 : (p : Int) < (n : Int) := by omega
      have i2 : IntKind.i64.wrap ((k : Int) - 1) = (p : Int) := by rw [show (k : Int) - 1 = (p : Int) by omega]; exact IntWalk.i64_in _ (by omega)
      have i5 : p + 1 ≤ n := by omega
      have i6 : k ≤ n := by omega
      clear ho hln hcs hs hcs2 hA2 hc1 hd1 hk hki
      by_cases hyx : y1 < x1
      · have hge : ¬ x1 ≤ y1 := by omega
        have hged : decide (x1 ≤ y1) = false := decide_eq_false hge
        go_wp2_with fail
        go_quiet (fail)
        go_wp2_with fail
        go_roundw
        case rel => exact ⟨k, i6, rfl, by rw [HS.out.1, decide_eq_true hyx, Bool.true_and], HO.out.trans ⟨rfl, rfl, rfl, Nat.le_refl _, fun _ _ => rfl⟩⟩
        case measure => simp [intOf]; omega
      · have hge : x1 ≤ y1 := by omega
        have hged : decide (x1 ≤ y1) = true := decide_eq_true hge
        go_wp2_with fail
        go_quiet (fail)
        go_wp2_with fail
        go_ret
        exact ⟨by rw [HS.out.1, decide_eq_false (show ¬ y1 < x1 by omega)]; rfl, HO.out.trans ⟨rfl, rfl, rfl, Nat.le_refl _, fun _ _ => rfl⟩⟩
    · rw [sortedL_end l _ (by omega)] at hs
      have HO := Lib.hid (And.intro ho hs)
      have hnlt : ¬ ((p : Int) + 1 < (n : Int)) := by omega
      clear ho hs hln
      go_wp2_with fail
      go_ret
      exact ⟨by rw [HO.out.2]; rfl, HO.out.1⟩
end Go.Proofs.Ytdacefmcnjoboaa.LabW
