/-
  match.Between, Without, Sorted: THE WALKS.
  num.Small, num.Text, num.small: THE WALKS.
  THE SHELF LAYINGS OF strings.Builder AT THIS PROGRAM, IN PLAIN WORDS: written by lay-plain.
-/
import Derived.Test.YtdjgndnllaingaaJ08
import Derived.Deep.Onto
import Derived.Test.YtdjgndnllaingaaJ02
import Derived.Test.YtdjgndnllaingaaRows
import Derived.Test.YtdjgndnllaingaaJ04
import Derived.Handy
import Derived.Deep.QuietTactic
import Derived.BigQuiet
import Derived.Laws.BitsAllLaws
import Derived.Laws.Bits64
import Derived.Lib.Hide
import Derived.Shelf.Strings.Builder1
import Derived.Ground.NamesProg
/-
  match.Between, Without, Sorted: THE WALKS.
-/
namespace Go.Proofs.Ytdjgndnllaingaa.LabW
open Go.RowKit Go.Shelf LabM
def insideB (f t : Int) (x : Sam) : Bool := decide (f ≤ x.1) && decide (x.1 ≤ t)
theorem between1_any (x : Sam) (f t : Int) (bf bt : Nat) (W : World) (hf : W.cell? ⟨bf, 0, none⟩ = some (.int .i64 f)) (ht : W.cell? ⟨bt, 0, none⟩ = some (.int .i64 t)) :
    Calls Try.prog 64 (#[.agg #[.int .i64 x.1, .int .u64 x.2]] ++ #[.pointer (some ⟨bf, 0, none⟩), .pointer (some ⟨bt, 0, none⟩)]) W fun e W' => e = .returned (.bool (insideB f t x)) ∧ Below W.heap.size W W' := by
  obtain ⟨x1, x2⟩ := x
  have hb1 : bf < W.heap.size := World.block_lt_of_cell? W _ hf
  have hb2 : bt < W.heap.size := World.block_lt_of_cell? W _ ht
  show Calls Try.prog 64 #[.agg #[.int .i64 x1, .int .u64 x2], .pointer (some ⟨bf, 0, none⟩), .pointer (some ⟨bt, 0, none⟩)] W _
  unfold insideB
  simp only []
  by_cases h1 : f ≤ x1
  · have hd : decide (f ≤ x1) = true := decide_eq_true h1
    rw [hd, Bool.true_and]
    clear hd
    go_enter Try.func64, Try.ntmps64
    go_wp2_with fail
    go_ret
    exact ⟨rfl, (Below.refl _ _).alloc (Nat.le_refl _) _⟩
  · have hd : decide (f ≤ x1) = false := decide_eq_false h1
    rw [hd, Bool.false_and]
    clear hd
    go_enter Try.func64, Try.ntmps64
    go_wp2_with fail
    go_ret
    exact ⟨rfl, (Below.refl _ _).alloc (Nat.le_refl _) _⟩
theorem without1_any (x : Sam) (f t : Int) (bf bt : Nat) (W : World) (hf : W.cell? ⟨bf, 0, none⟩ = some (.int .i64 f)) (ht : W.cell? ⟨bt, 0, none⟩ = some (.int .i64 t)) :
    Calls Try.prog 59 (#[.agg #[.int .i64 x.1, .int .u64 x.2]] ++ #[.pointer (some ⟨bf, 0, none⟩), .pointer (some ⟨bt, 0, none⟩)]) W fun e W' => e = .returned (.bool (!insideB f t x)) ∧ Below W.heap.size W W' := by
  obtain ⟨x1, x2⟩ := x
  have hb1 : bf < W.heap.size := World.block_lt_of_cell? W _ hf
  have hb2 : bt < W.heap.size := World.block_lt_of_cell? W _ ht
  show Calls Try.prog 59 #[.agg #[.int .i64 x1, .int .u64 x2], .pointer (some ⟨bf, 0, none⟩), .pointer (some ⟨bt, 0, none⟩)] W _
  by_cases h1 : x1 < f
  · have hd : insideB f t (x1, x2) = false := by unfold insideB; rw [decide_eq_false (by omega)]; rfl
    rw [hd]
    clear hd
    go_enter Try.func59, Try.ntmps59
    go_wp2_with fail
    go_ret
    exact ⟨rfl, (Below.refl _ _).alloc (Nat.le_refl _) _⟩
  · have hd : (!insideB f t (x1, x2)) = decide (t < x1) := by
      unfold insideB
      rw [decide_eq_true (p := f ≤ x1) (by omega), Bool.true_and, ← decide_not, decide_eq_decide]
      omega
    rw [hd]
    clear hd
    go_enter Try.func59, Try.ntmps59
    go_wp2_with fail
    go_ret
    exact ⟨rfl, (Below.refl _ _).alloc (Nat.le_refl _) _⟩
theorem between_any (A : Option Addr) (n c : Nat) (l : List Sam) (f t : Int) (w : World) (hl : Comes w 2 encS okS A n c l) (hn : n ≤ 1000000) :
    Calls Try.prog 48 #[.slice A n c, .int .i64 f, .int .i64 t] w fun e w' => ∃ v, e = .returned v ∧ w'.ownsRow w.heap.size 51 2 v (l.filter (insideB f t)).length ((l.filter (insideB f t)).flatMap encS) ∧ Below w.heap.size w w' := by
  have HL := Lib.hid hl
  clear hl
  go_enter Try.func48, Try.ntmps48
  go_wp2_with fail
  obtain ⟨w0, hw0⟩ : ∃ w0, (w.alloc (.cells #[.int .i64 f] 2)).alloc (.cells #[.int .i64 t] 2) = w0 := ⟨_, rfl⟩
  have hb0 : Below w.heap.size w w0 := by rw [← hw0]; exact ((Below.refl _ _).alloc (Nat.le_refl _) _).alloc (by simp) _
  have hc0 : w0.heap[w.heap.size]? = some (.cells #[.int .i64 f] 2 (0, 0)) := by rw [← hw0]; exact heap_alloc2_old _ _ _
  have hc1 : w0.heap[w.heap.size + 1]? = some (.cells #[.int .i64 t] 2 (0, 0)) := by rw [← hw0]; exact heap_alloc2_new _ _ _
  have hd0 : w0.cell? ⟨w.heap.size, 0, none⟩ = some (.int .i64 f) := by rw [cell_of_row w0 _ _ _ _ _ hc0]; rfl
  have hd1 : w0.cell? ⟨w.heap.size + 1, 0, none⟩ = some (.int .i64 t) := by rw [cell_of_row w0 _ _ _ _ _ hc1]; rfl
  rw [hw0]
  have HC := Lib.hid (And.intro hb0 (And.intro hd0 hd1))
  clear hw0 hb0 hc0 hc1 hd0 hd1
  refine (pickS_any 64 #[.pointer (some ⟨w.heap.size, 0, none⟩), .pointer (some ⟨w.heap.size + 1, 0, none⟩)] (insideB f t) (enters_of Try.func64 (by kernel_rfl) rfl) A n c l _ (HL.out.later HC.out.1) hn
    (fun x hx W hW => between1_any x f t _ _ W ((hW.cell (p := ⟨w.heap.size, 0, none⟩) (World.block_lt_of_cell? w0 _ HC.out.2.1)).trans HC.out.2.1) ((hW.cell (p := ⟨w.heap.size + 1, 0, none⟩) (World.block_lt_of_cell? w0 _ HC.out.2.2)).trans HC.out.2.2))).mono ?_
  rintro e w2 ⟨v, rfl, hown, hb2⟩
  have HB2 := Lib.hid (And.intro (hown.mono HC.out.1.size) (later HC.out.1 hb2))
  clear hown hb2
  go_wp2_with fail
  go_ret
  exact ⟨_, rfl, HB2.out.1, HB2.out.2⟩
theorem without_any (A : Option Addr) (n c : Nat) (l : List Sam) (f t : Int) (w : World) (hl : Comes w 2 encS okS A n c l) (hn : n ≤ 1000000) :
    Calls Try.prog 37 #[.slice A n c, .int .i64 f, .int .i64 t] w fun e w' => ∃ v, e = .returned v ∧ w'.ownsRow w.heap.size 51 2 v (l.filter (fun x => !insideB f t x)).length ((l.filter (fun x => !insideB f t x)).flatMap encS) ∧ Below w.heap.size w w' := by
  have HL := Lib.hid hl
  clear hl
  go_enter Try.func37, Try.ntmps37
  go_wp2_with fail
  obtain ⟨w0, hw0⟩ : ∃ w0, (w.alloc (.cells #[.int .i64 f] 2)).alloc (.cells #[.int .i64 t] 2) = w0 := ⟨_, rfl⟩
  have hb0 : Below w.heap.size w w0 := by rw [← hw0]; exact ((Below.refl _ _).alloc (Nat.le_refl _) _).alloc (by simp) _
  have hc0 : w0.heap[w.heap.size]? = some (.cells #[.int .i64 f] 2 (0, 0)) := by rw [← hw0]; exact heap_alloc2_old _ _ _
  have hc1 : w0.heap[w.heap.size + 1]? = some (.cells #[.int .i64 t] 2 (0, 0)) := by rw [← hw0]; exact heap_alloc2_new _ _ _
  have hd0 : w0.cell? ⟨w.heap.size, 0, none⟩ = some (.int .i64 f) := by rw [cell_of_row w0 _ _ _ _ _ hc0]; rfl
  have hd1 : w0.cell? ⟨w.heap.size + 1, 0, none⟩ = some (.int .i64 t) := by rw [cell_of_row w0 _ _ _ _ _ hc1]; rfl
  rw [hw0]
  have HC := Lib.hid (And.intro hb0 (And.intro hd0 hd1))
  clear hw0 hb0 hc0 hc1 hd0 hd1
  refine (pickS_any 59 #[.pointer (some ⟨w.heap.size, 0, none⟩), .pointer (some ⟨w.heap.size + 1, 0, none⟩)] (fun x => !insideB f t x) (enters_of Try.func59 (by kernel_rfl) rfl) A n c l _ (HL.out.later HC.out.1) hn
    (fun x hx W hW => without1_any x f t _ _ W ((hW.cell (p := ⟨w.heap.size, 0, none⟩) (World.block_lt_of_cell? w0 _ HC.out.2.1)).trans HC.out.2.1) ((hW.cell (p := ⟨w.heap.size + 1, 0, none⟩) (World.block_lt_of_cell? w0 _ HC.out.2.2)).trans HC.out.2.2))).mono ?_
  rintro e w2 ⟨v, rfl, hown, hb2⟩
  have HB2 := Lib.hid (And.intro (hown.mono HC.out.1.size) (later HC.out.1 hb2))
  clear hown hb2
  go_wp2_with fail
  go_ret
  exact ⟨_, rfl, HB2.out.1, HB2.out.2⟩
/-- Do times rise? -/
def sortedL : List Sam → Bool
  | [] => true
  | [_] => true
  | x :: y :: l => decide (x.1 < y.1) && sortedL (y :: l)
theorem sortedL_at (l : List Sam) (k : Nat) (h : k + 1 < l.length) : sortedL (l.drop k) = (decide (l[k].1 < l[k + 1].1) && sortedL (l.drop (k + 1))) := by
  rw [List.drop_eq_getElem_cons (by omega : k < l.length), List.drop_eq_getElem_cons h, sortedL]
theorem sortedL_at2 (l : List Sam) (p k : Nat) (hk : k = p + 1) (h : k < l.length) (hp : p < l.length) : sortedL (l.drop p) = (decide (l[p].1 < l[k].1) && sortedL (l.drop k)) := by
  subst hk; exact sortedL_at l p h
theorem sortedL_end (l : List Sam) (k : Nat) (h : l.length ≤ k + 1) : sortedL (l.drop k) = true := by
  have hl : (l.drop k).length ≤ 1 := by rw [List.length_drop]; omega
  match l.drop k, hl with
  | [], _ => rfl
  | [_], _ => rfl
set_option maxHeartbeats 2000000 in
theorem sorted_any (A : Option Addr) (n c : Nat) (l : List Sam) (w : World) (hl : Comes w 2 encS okS A n c l) :
    Calls Try.prog 51 #[.slice A n c] w fun e w' => e = .returned (.bool (sortedL l)) ∧ Below w.heap.size w w' := by
  have HL := Lib.hid hl
  have hcap : c ≤ 9223372036854775807 := hl.cap
  have hle := hl.le
  clear hl
  go_enter Try.func51, Try.ntmps51
  go_wp2_with fail
  go_loopw [6] (fun v6 wr => ∃ k : Nat, k ≤ n ∧ v6 = .int .i64 k ∧ sortedL l = sortedL (l.drop (k - 1)) ∧ Below w.heap.size w wr) (fun v6 _ => n - (intOf v6).toNat)
  case atStart => exact ⟨0, Nat.zero_le _, rfl, rfl, Below.refl _ _⟩
  case round =>
    obtain ⟨k, hk, rfl, hs, ho⟩ := hrel
    have hln := HL.out.len
    by_cases hlt : k < n
    · have hkl : k < l.length := by omega
      obtain ⟨b, o, rfl, hcs⟩ := S_cells HL.out.lies hkl
      obtain ⟨hc0, hc1⟩ := hcs _ ho
      have HO := Lib.hid ho
      by_cases h0 : k = 0
      · have HS := Lib.hid hs
        clear ho hln hcs hs hc0 hc1
        subst h0
        go_wp2_with fail
        go_quiet (fail)
        go_wp2_with fail
        go_roundw
        case rel => exact ⟨1, by omega, rfl, HS.out, HO.out.trans ⟨rfl, rfl, rfl, Nat.le_refl _, fun _ _ => rfl⟩⟩
        case measure => simp [intOf]; omega
      · obtain ⟨p, hp⟩ : ∃ p, k = p + 1 := ⟨k - 1, by omega⟩
        obtain ⟨b2, o2, hA2, hcs2⟩ := S_cells HL.out.lies (show p < l.length by omega)
        obtain ⟨rfl, rfl⟩ : b = b2 ∧ o = o2 := by injection hA2 with hA2; injection hA2 with e1 e2; exact ⟨e1, e2⟩
        obtain ⟨hd0, hd1⟩ := hcs2 _ ho
        rw [show k - 1 = p by omega, sortedL_at2 l p k hp hkl (by omega)] at hs
        generalize l[p]'(by omega) = y at *
        generalize l[k] = x at *
        obtain ⟨x1, x2⟩ := x
        obtain ⟨y1, y2⟩ := y
        simp only [] at hc0 hd0 hs
        have HS := Lib.hid (And.intro hs hp)
        have i0 : (0 : Int) < (k : Int) := by omega
        have i0' : 0 < k := by omega
        have i1 : (k : Int) < (n : Int) := by omega
        have i3 : (0 : Int) ≤ (p : Int) := by omega
        have i4 : (p : Int) < (n : Int) := by omega
        have i2 : IntKind.i64.wrap ((k : Int) - 1) = (p : Int) := by rw [show (k : Int) - 1 = (p : Int) by omega]; exact IntWalk.i64_in _ (by omega)
        clear ho hln hcs hs hcs2 hA2 hc1 hd1 hp h0
        by_cases hyx : y1 < x1
        · have hge : ¬ x1 ≤ y1 := by omega
          have hged : decide (x1 ≤ y1) = false := decide_eq_false hge
          go_wp2_with fail
          go_quiet (fail)
          go_wp2_with fail
          go_roundw
          case rel => exact ⟨k + 1, by omega, by go_num, by rw [HS.out.1, decide_eq_true hyx, Bool.true_and, Nat.add_sub_cancel], HO.out.trans ⟨rfl, rfl, rfl, Nat.le_refl _, fun _ _ => rfl⟩⟩
          case measure => simp [intOf]; omega
        · have hge : x1 ≤ y1 := by omega
          have hged : decide (x1 ≤ y1) = true := decide_eq_true hge
          go_wp2_with fail
          go_quiet (fail)
          go_wp2_with fail
          go_ret
          exact ⟨by rw [HS.out.1, decide_eq_false (show ¬ y1 < x1 by omega)]; rfl, HO.out.trans ⟨rfl, rfl, rfl, Nat.le_refl _, fun _ _ => rfl⟩⟩
    · obtain rfl : k = n := by omega
      rw [sortedL_end l _ (by omega)] at hs
      have HO := Lib.hid (And.intro ho hs)
      clear ho hs
      go_wp2_with fail
      go_ret
      exact ⟨by rw [HO.out.2]; rfl, HO.out.1⟩
end Go.Proofs.Ytdjgndnllaingaa.LabW
/-
  num.Small, num.Text, num.small: THE WALKS.
-/
namespace Go.Proofs.Ytdjgndnllaingaa.FrW
set_option linter.unusedVariables false
open Go.RowKit FrM
/-- The first bytes of a row. -/
def HasB (cs : Array Value) (pre : List UInt8) : Prop := cs.size = 10 ∧ ∀ j (h : j < pre.length), cs[j]? = some (.int .u8 ((pre[j]'h).toNat : Int))
theorem HasB.set {cs : Array Value} {pre : List UInt8} (h : HasB cs pre) (hl : pre.length < 10) (b : UInt8) {i : Nat} (hi : pre.length = i) : HasB (cs.setIfInBounds i (.int .u8 (b.toNat : Int))) (pre ++ [b]) := by
  subst hi
  refine ⟨by simp [h.1], fun j hj => ?_⟩
  by_cases e : j = pre.length
  · subst e
    rw [Array.getElem?_setIfInBounds_self_of_lt (by rw [h.1]; omega)]
    simp
  · have hj2 : j < pre.length := by rw [List.length_append, List.length_singleton] at hj; omega
    rw [Array.getElem?_setIfInBounds_ne (by omega), h.2 j hj2, List.getElem_append_left]
theorem or_byte (m : Nat) : bits .or .u8 ((m : Int) % 256) 128 = ((UInt8.ofNat (m % 128 + 128)).toNat : Int) := by
  rw [byte_nat _ (by omega)]
  have h1 : (m : Int) % 256 = ((m % 256 : Nat) : Int) := by omega
  have : ∀ x : Fin 256, bits .or .u8 ((x.val : Nat) : Int) 128 = ((x.val % 128 + 128 : Nat) : Int) := by decide +kernel
  rw [h1, this ⟨m % 256, by omega⟩]
  show ((m % 256 % 128 + 128 : Nat) : Int) = _
  omega
theorem sm_more {f m : Nat} (h : ¬ m < 128) : sm (f + 1) m = UInt8.ofNat (m % 128 + 128) :: sm f (m / 128) := by
  show (if m < 128 then _ else _) = _
  rw [if_neg h]
theorem sm_last {f m : Nat} (h : m < 128) : sm f m = [UInt8.ofNat m] := by
  cases f with
  | zero => rfl
  | succ f => show (if m < 128 then _ else _) = _; rw [if_pos h]
theorem info_ten : (Try.prog.info? 132).map (·.size) = some 10 := by kernel_rfl
theorem ten_len : Try.prog.arrayLen 132 = 10 := by kernel_rfl
theorem ten_under : Try.prog.underlying 132 = some (.array (Try.prog.arrayLen 132) (Try.prog.elem 132)) := by kernel_rfl
theorem ten_size : Try.prog.elem 132 = 5 := by kernel_rfl
theorem slice_ten (g i : Nat) (hi : i < 10) (w : World) : (Instr.sliceAt 132 (.pointer (some ⟨g, 0, none⟩)) none (some (.int .i64 ((i : Int) + 1))) none).run Try.prog w = .ok (.slice (some ⟨g, 0, none⟩) (i + 1) 10) w := by
  have e : ((i : Int) + 1).toNat = i + 1 := by omega
  rw [run_sliceAt_array_h w _ _ ten_under .i64 _ (by omega) (by rw [ten_len]; omega), ten_len, ten_size, e]
  simp [slicedAt, go_sem]
set_option maxRecDepth 20000 in
set_option maxHeartbeats 2000000 in
theorem small_any (n : Nat) (w : World) (hn : n < 18446744073709551616) :
    Calls Try.prog 78 #[.int .u64 (n : Int)] w fun e w' => e = .returned (.string ⟨(small n).toArray⟩) ∧ Below w.heap.size w w' := by
  have HN := Lib.hid hn
  obtain ⟨S, hS⟩ : ∃ S, small n = S := ⟨_, rfl⟩
  rw [hS]
  have HS := Lib.hid hS
  clear hS
  go_enter Try.func78, Try.ntmps78
  go_wp2_with fail
  go_loopw [0, 4] (fun v0 v4 wr => ∃ (i m : Nat) (cs : Array Value) (pre : List UInt8), i ≤ 9 ∧ v4 = .int .i64 i ∧ v0 = .int .u64 m ∧ m < 2 * 128 ^ (9 - i) ∧ pre.length = i ∧ S = pre ++ sm (9 - i) m ∧ HasB cs pre ∧ Below w.heap.size w wr ∧ wr.heap[w.heap.size]? = some (.cells cs 132 (0, 0))) (fun v0 _ _ => (intOf v0).toNat)
  case atStart =>
    exact ⟨0, n, _, [], by omega, rfl, rfl, by rw [show 9 - 0 = 9 from rfl, num_two]; exact HN.out, rfl, HS.out.symm, ⟨rfl, fun j h => by simp at h⟩, (Below.refl _ _).alloc (Nat.le_refl _) _, heap_alloc_new w _⟩
  case round =>
    obtain ⟨i, m, cs, pre, hi, rfl, rfl, hm, hpl, hpre, hb, ho, hc⟩ := hrel
    have hcell : wr.cell? ⟨w.heap.size, i, none⟩ = some cs[i]! := by
      rw [cell_of_row wr _ i cs _ _ hc]; have := hb.1; simp [show i < cs.size by omega]
    have hfro : wr.frozen? ⟨w.heap.size, i, none⟩ = false := frozen_of_row wr _ i cs _ hc
    have i0 : (0 : Int) ≤ (i : Int) := by omega
    have i1 : (i : Int) < 10 := by omega
    have HO := Lib.hid (And.intro ho hc)
    have HB := Lib.hid (And.intro hb (And.intro hpl hpre))
    have HM := Lib.hid hm
    clear ho hc hb hpl hpre hm
    by_cases hlt : m < 128
    · obtain ⟨y, hy⟩ : ∃ y, UInt8.ofNat m = y := ⟨_, rfl⟩
      have hyn : y.toNat = m := by rw [← hy, byte_nat _ (by omega)]
      have hS : S = pre ++ [y] := by rw [HB.out.2.2, sm_last hlt, hy]
      have hlen : S.length = i + 1 := by rw [hS, List.length_append, HB.out.2.1]; rfl
      have hconv : (convert 110 9 (.slice (some ⟨w.heap.size, 0, none⟩) (i + 1) 10)).run Try.prog (wr.setCell ⟨w.heap.size, i, none⟩ (.int .u8 (m : Int))) = .ok (.string ⟨S.toArray⟩) (wr.setCell ⟨w.heap.size, i, none⟩ (.int .u8 (m : Int))) := by
        rw [← hlen]
        refine run_convert_bytes_back (P := Try.prog) _ 110 9 5 ⟨w.heap.size, 0, none⟩ 10 S Try.underlying110 Try.underlying5 Try.underlying9 ?_
        intro j hj
        have ha : (⟨w.heap.size, 0, none⟩ : Addr).add j = ⟨w.heap.size, j, none⟩ := by unfold Addr.add; split <;> simp_all
        have hrow := heap_setCell_same wr w.heap.size i cs _ (.int .u8 (m : Int)) HO.out.2
        rw [← hyn] at hrow
        have h2 := (HB.out.1.set (by rw [HB.out.2.1]; omega) y HB.out.2.1).2 j (by rw [← hS]; exact hj)
        rw [← hyn, ha, cell_of_row _ _ j _ _ _ hrow, h2]
        simp only [hS]
      have HF := Lib.hid (show Below w.heap.size w (wr.setCell ⟨w.heap.size, i, none⟩ (.int .u8 (m : Int))) from HO.out.1.setCell (Nat.le_refl _) _)
      have hsl := fun W => slice_ten w.heap.size i (by omega) W
      clear hy hyn hS hlen HS
      go_wp2
      go_ret
      exact ⟨rfl, HF.out⟩
    · have hi8 : i < 9 := by
        have h := HM.out
        by_cases h9 : i = 9
        · subst h9; have : m < 2 := by simpa using h
          omega
        · omega
      obtain ⟨y, hy⟩ : ∃ y, UInt8.ofNat (m % 128 + 128) = y := ⟨_, rfl⟩
      have hor := or_byte m
      rw [hy] at hor
      have hdiv : (m : Int) / 128 = ((m / 128 : Nat) : Int) := by omega
      have hsm : sm (9 - i) m = y :: sm (9 - (i + 1)) (m / 128) := by
        rw [show 9 - i = (9 - (i + 1)) + 1 by omega, sm_more hlt, hy]
      have hm2 : m / 128 < 2 * 128 ^ (9 - (i + 1)) := by
        have h := HM.out
        rw [show 9 - i = (9 - (i + 1)) + 1 by omega, Nat.pow_succ] at h
        rw [Nat.div_lt_iff_lt_mul (by omega)]; omega
      obtain ⟨m2, hmm⟩ : ∃ m2, m / 128 = m2 := ⟨_, rfl⟩
      have hlt2 : m2 < m := by omega
      rw [hmm] at hdiv hsm hm2
      have HR := Lib.hid (And.intro hsm (And.intro hm2 hlt2))
      clear hy hsm hm2 hmm hlt2
      go_wp2_with fail
      go_roundw
      case rel =>
        refine ⟨i + 1, m2, _, pre ++ [y], by omega, by go_num, rfl, HR.out.2.1, by rw [List.length_append, HB.out.2.1]; rfl, ?_, HB.out.1.set (by rw [HB.out.2.1]; omega) y HB.out.2.1, HO.out.1.setCell (Nat.le_refl _) _, heap_setCell_same wr _ i cs _ _ HO.out.2⟩
        rw [HB.out.2.2, HR.out.1, List.append_assoc]; rfl
      case measure =>
        have := HR.out.2.2
        simp [intOf]; omega
/-- Bytes as a string. -/
def bs (l : List UInt8) : ByteArray := ⟨l.toArray⟩
theorem bs_list (l : List UInt8) : (bs l).data.toList = l := rfl
theorem bs_size (l : List UInt8) : (bs l).size = l.length := by simp [bs, ByteArray.size]
theorem bs_append (a b : List UInt8) : bs a ++ bs b = bs (a ++ b) := by
  apply ByteArray.ext; simp [bs]
theorem bs_of (s : ByteArray) : bs s.data.toList = s := rfl
theorem bs_extract (l : List UInt8) (i j : Nat) : (bs l).extract i j = bs ((l.drop i).take (j - i)) := by
  apply ByteArray.ext
  apply Array.toList_inj.1
  rw [ByteArray.data_extract, Array.toList_extract, List.extract_eq_take_drop]
  rfl
theorem bs_get (l : List UInt8) (i : Nat) (h : i < (bs l).size) : (bs l)[i] = l[i]'(by rw [bs_size] at h; exact h) := rfl
theorem bs_inj {a b : List UInt8} (h : bs a = bs b) : a = b := by
  have := congrArg (fun s : ByteArray => s.data.toList) h
  exact this
set_option maxHeartbeats 400000 in
theorem text_any (l : List UInt8) (w : World) (hl : l.length ≤ 1099511627776) :
    Calls Try.prog 66 #[.string (bs l)] w fun e w' => e = .returned (.string (bs (text l))) ∧ Below w.heap.size w w' := by
  have hz := bs_size l
  have hsm := sm_len 9 l.length
  have hz2 : (bs (small l.length)).size ≤ 10 := by rw [bs_size]; exact hsm
  have HT : Hid (bs (small l.length) ++ bs l = bs (text l)) := Lib.hid (bs_append _ _)
  have HS : Hid (∀ W, Calls Try.prog 78 #[.int .u64 (l.length : Int)] W fun e w' => e = .returned (.string (bs (small l.length))) ∧ Below W.heap.size W w') := Lib.hid (fun W => small_any l.length W (by omega))
  obtain ⟨S, hS⟩ : ∃ S, bs (small l.length) = S := ⟨_, rfl⟩
  obtain ⟨X, hX⟩ : ∃ X, bs l = X := ⟨_, rfl⟩
  obtain ⟨n, hn⟩ : ∃ n, l.length = n := ⟨_, rfl⟩
  rw [hS, hX] at HT
  rw [hS] at HS hz2
  rw [hn] at HS hz hl
  rw [hX] at hz ⊢
  clear hS hX hsm hn
  go_enter Try.func66, Try.ntmps66
  go_wp2_with fail
  refine (HS.out _).mono ?_
  rintro e w1 ⟨rfl, hb1⟩
  go_wp2
  go_ret
  exact ⟨by rw [← HT.out]; rfl, hb1⟩
theorem text_le (l : List UInt8) : (text l).length ≤ l.length + 10 := by rw [text_len]; have := sm_len 9 l.length; show (sm 9 l.length).length + _ ≤ _; omega
theorem or_u64 (a c k : Nat) (ha : a < 2 ^ k) (h : a + c * 2 ^ k < 18446744073709551616) : bits .or .u64 (a : Int) ((c * 2 ^ k : Nat) : Int) = ((a + c * 2 ^ k : Nat) : Int) := by
  have e : a ||| c * 2 ^ k = a + c * 2 ^ k := by
    have := Nat.two_pow_add_eq_or_of_lt ha c
    rw [Nat.or_comm, Nat.mul_comm c, Nat.add_comm, this]
  have h1 : (BitVec.ofInt 64 (a : Int)).toNat = a := by
    rw [BitVec.ofInt_natCast, BitVec.toNat_ofNat]; exact Nat.mod_eq_of_lt (by omega)
  have h2 : (BitVec.ofInt 64 ((c * 2 ^ k : Nat) : Int)).toNat = c * 2 ^ k := by
    rw [BitVec.ofInt_natCast, BitVec.toNat_ofNat]; exact Nat.mod_eq_of_lt (by omega)
  show IntKind.u64.wrap ((BitVec.ofInt 64 (a : Int) ||| BitVec.ofInt 64 ((c * 2 ^ k : Nat) : Int)).toNat : Int) = _
  rw [BitVec.toNat_or, h1, h2, e, IntKind.wrap_u64]
  omega
theorem andNot_byte (y : UInt8) : bits .andNot .u8 (y.toNat : Int) 128 = ((y.toNat % 128 : Nat) : Int) := by
  have : ∀ x : Fin 256, bits .andNot .u8 ((x.val : Nat) : Int) 128 = ((x.val % 128 : Nat) : Int) := by decide +kernel
  exact this ⟨y.toNat, y.toNat_lt⟩
def gsV (r : Option (Nat × Nat)) : Value := match r with
  | none => .tuple #[.int .u64 0, .int .i64 (-1)]
  | some (n, k) => .tuple #[.int .u64 (n : Int), .int .i64 (k : Int)]
end Go.Proofs.Ytdjgndnllaingaa.FrW
/-
  THE SHELF LAYINGS OF strings.Builder AT THIS PROGRAM, IN PLAIN WORDS: written by lay-plain.
-/
namespace Go.Proofs
open Go.Shelf
def Try.lays169_ren : Go.Shelf.Ren := ⟨fun | 169 => 67 | n => n, fun | 70 => 109 | 9 => 9 | 0 => 0 | 72 => 112 | 37 => 110 | 127 => 127 | 3 => 3 | 5 => 5 | n => n, fun | n => n⟩
theorem Try.lays169 : Go.Proofs.Lays.n169 Try.prog Try.lays169_ren := {
  mixed := by kernel_rfl
  f169 := Try.func67.trans (congrArg some (by kernel_rfl))
  t0 := Try.underlying0
  a0 := Try.isAgg0
  z0 := Try.sizeOf0
  v0 := Try.zeroValue0
  t3 := Try.underlying3
  a3 := Try.isAgg3
  z3 := Try.sizeOf3
  v3 := Try.zeroValue3
  t9 := Try.underlying9
  a9 := Try.isAgg9
  z9 := Try.sizeOf9
  v9 := Try.zeroValue9
  t37 := Try.underlying110
  a37 := Try.isAgg110
  z37 := Try.sizeOf110
  v37 := Try.zeroValue110
  t70 := Try.underlying109
  a70 := Try.isAgg109
  z70 := Try.sizeOf109
  v70 := Try.zeroValue109
  t72 := Try.underlying112
  a72 := Try.isAgg112
  z72 := Try.sizeOf112
  v72 := Try.zeroValue112
  t127 := Try.underlying127
  a127 := Try.isAgg127
  z127 := Try.sizeOf127
  v127 := Try.zeroValue127 }
theorem Try.Builder_Extra_169 : Builder.Extra Try.prog Try.lays169_ren := {
  sizeBuilder := by kernel_rfl
  liesBuilder := by kernel_rfl
  t5 := Try.underlying5
  a5 := Try.isAgg5
  z5 := Try.sizeOf5
  v5 := Try.zeroValue5
  infoByte := by kernel_rfl
  cellsByte := by kernel_rfl
  sizeByte := by kernel_rfl
  neB5 := by decide }
end Go.Proofs
