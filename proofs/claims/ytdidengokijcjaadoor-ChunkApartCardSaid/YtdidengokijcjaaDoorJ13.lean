/-
  alluviumref04.Same, alluviumlaw04.works: THE WALKS.
  num.Small, num.Text, num.small: THE WALKS.
  THE SHELF LAYINGS OF strings.Builder AT THIS PROGRAM, IN PLAIN WORDS: written by lay-plain.
  strings.Builder: copyCheck, WriteString, WriteByte, String: WHAT A BUILDER OF THE CALL'S OWN HOLDS.
  label.Get, alluviumref06.Get: THE WALKS.
-/
import Derived.Test.YtdidengokijcjaaDoorJ12
import Derived.Test.YtdidengokijcjaaDoorJ01
import Derived.Test.YtdidengokijcjaaDoorRows
import Derived.Test.YtdidengokijcjaaDoorJ06
import Derived.Handy
import Derived.Deep.QuietTactic
import Derived.BigQuiet
import Derived.Laws.BitsAllLaws
import Derived.Laws.Bits64
import Derived.Lib.Hide
import Derived.Shelf.Strings.Builder1
import Derived.Ground.NamesProg
import Derived.Test.YtdidengokijcjaaDoorJ11
import Derived.Test.YtdidengokijcjaaDoorJ02
import Derived.WalkKit
import Derived.Laws.Externs
import Derived.Shelf.Abstract
import Derived.StillTailTactics
import Derived.Outline
/-
  alluviumref04.Same, alluviumlaw04.works: THE WALKS.
-/
namespace Go.Proofs.YtdidengokijcjaaDoor.StW
open Go.RowKit Go.Shelf BitsM BitsW StM
/-- What was put is got. -/
theorem read_back (l : List Int) (hl : ∀ t ∈ l, okI t) (hn : l.length ≤ 10000) : readB (unpack (pack (bitsAll s0 l))) (l.length : Int) = some l := by
  unfold readB
  rw [if_neg (by omega), Int.toNat_natCast, unpack_pack, read_all s0 l _ (show okSt (0, 0, 0) by unfold okSt okI; simp) hl]
  show (if cleanB (zeros _) = true then some l else none) = some l
  rw [if_pos]
  unfold cleanB
  rw [zeros_all, Bool.true_and]
  simp [zeros]; omega
/-- Nothing else is read. -/
theorem read_only (B : ByteArray) (n : Int) (l : List Int) (h : readB (unpack B.data.toList) n = some l) : (⟨(pack (bitsAll s0 l)).toArray⟩ : ByteArray) = B ∧ (l.length : Int) = n ∧ (∀ t ∈ l, okI t) ∧ l.length ≤ 10000 := by
  unfold readB at h
  split at h
  · cases h
  rename_i hn
  cases hr : readS (unpack B.data.toList) n.toNat s0 with
  | none => rw [hr] at h; cases h
  | some x =>
    obtain ⟨l', r⟩ := x
    rw [hr] at h
    change (if cleanB r = true then some l' else none) = some l at h
    split at h
    · rename_i hc
      injection h with h
      subst h
      obtain ⟨h1, h2, h3⟩ := all_read _ _ _ _ _ (show okSt (0, 0, 0) by unfold okSt okI; simp) hr
      have := pack_clean _ _ _ h2 hc
      have e0 : bitsAll s0 l' = bitsAll (0, 0, 0) l' := rfl
      exact ⟨by rw [e0, this], by omega, h3, by omega⟩
    · cases h
theorem read_any (B : ByteArray) (n : Int) (w : World) (hs : B.size ≤ 68719476736) :
    Calls Tryd.prog 63 #[.string B, .int .i64 n] w fun e w' => ∃ A k c, e = .returned (.tuple #[.slice A k c, .bool (readB (unpack B.data.toList) n).isSome]) ∧ Comes w' 1 encI okI A k c ((readB (unpack B.data.toList) n).getD []) ∧ Below w.heap.size w w' := by
  have hok : ∀ x ∈ (readB (unpack B.data.toList) n).getD [], okI x := by
    intro x hx
    cases h : readB (unpack B.data.toList) n with
    | none => rw [h] at hx; simp at hx
    | some l =>
      rw [h] at hx
      exact (read_only B n l h).2.2.1 x hx
  by_cases h : n < 0 ∨ 10000 < n
  · refine (read_far B n w h).mono ?_
    rintro e w' ⟨rfl, hb⟩
    have e1 : readB (unpack B.data.toList) n = none := by unfold readB; rw [if_pos h]
    rw [e1]
    exact ⟨_, _, _, rfl, Comes.nil _ _ _ _, hb⟩
  · obtain ⟨m, rfl⟩ : ∃ m : Nat, n = m := ⟨n.toNat, by omega⟩
    refine (read_near B m w hs (by omega)).mono ?_
    rintro e w' ⟨v, rfl, hown, hb⟩
    obtain ⟨A, c, rfl, -, hc⟩ := Comes.of_own hown (fun _ => rfl) (by decide) hok
    exact ⟨_, _, _, rfl, hc, hb⟩
def exL : List Int := [1000, 1010, 1020]
theorem ex_ok : ∀ t ∈ exL, okI t := by unfold exL okI; simp
theorem ex_read : readB (unpack (pack (bitsAll s0 exL))) 3 = some exL := read_back exL ex_ok (by unfold exL; simp)
theorem Comes.three (w : World) (a b c : Int) (ha : okI a) (hb : okI b) (hc : okI c) {g : Nat} (h : w.heap[g]? = some (.cells #[.int .i64 a, .int .i64 b, .int .i64 c] 2 (0, 0))) : Comes w 1 encI okI (some ⟨g, 0, none⟩) 3 3 [a, b, c] :=
  Comes.block h rfl (fun _ => rfl) rfl (Nat.le_refl _) (by unfold maxLen; omega) (fun x hx => by simp at hx; rcases hx with rfl | rfl | rfl <;> assumption)
end Go.Proofs.YtdidengokijcjaaDoor.StW
/-
  num.Small, num.Text, num.small: THE WALKS.
-/
namespace Go.Proofs.YtdidengokijcjaaDoor.FrW
set_option linter.unusedVariables false
open Go.RowKit FrM
/-- The first bytes of a row. -/
def HasB (cs : Array Value) (pre : List UInt8) : Prop := cs.size = 10 ∧ ∀ j (h : j < pre.length), cs[j]? = some (.int .u8 ((pre[j]'h).toNat : Int))
theorem HasB.set {cs : Array Value} {pre : List UInt8} (h : HasB cs pre) (hl : pre.length < 10) (b : UInt8) {i : Nat} (hi : pre.length = i) : HasB (cs.setIfInBounds i (.int .u8 (b.toNat : Int))) (pre ++ [b]) := by
  subst hi
  refine ⟨by simp [h.1], fun j hj => ?_⟩
  by_cases e : j = pre.length
  · subst e
    rw [Array.getElem?_setIfInBounds_self_of_lt (by rw [h.1]; omega)]
    simp
  · have hj2 : j < pre.length := by rw [List.length_append, List.length_singleton] at hj; omega
    rw [Array.getElem?_setIfInBounds_ne (by omega), h.2 j hj2, List.getElem_append_left]
theorem or_byte (m : Nat) : bits .or .u8 ((m : Int) % 256) 128 = ((UInt8.ofNat (m % 128 + 128)).toNat : Int) := by
  rw [byte_nat _ (by omega)]
  have h1 : (m : Int) % 256 = ((m % 256 : Nat) : Int) := by omega
  have : ∀ x : Fin 256, bits .or .u8 ((x.val : Nat) : Int) 128 = ((x.val % 128 + 128 : Nat) : Int) := by decide +kernel
  rw [h1, this ⟨m % 256, by omega⟩]
  show ((m % 256 % 128 + 128 : Nat) : Int) = _
  omega
theorem sm_more {f m : Nat} (h : ¬ m < 128) : sm (f + 1) m = UInt8.ofNat (m % 128 + 128) :: sm f (m / 128) := by
  show (if m < 128 then _ else _) = _
  rw [if_neg h]
theorem sm_last {f m : Nat} (h : m < 128) : sm f m = [UInt8.ofNat m] := by
  cases f with
  | zero => rfl
  | succ f => show (if m < 128 then _ else _) = _; rw [if_pos h]
theorem info_ten : (Tryd.prog.info? 101).map (·.size) = some 10 := by kernel_rfl
theorem ten_len : Tryd.prog.arrayLen 101 = 10 := by kernel_rfl
theorem ten_under : Tryd.prog.underlying 101 = some (.array (Tryd.prog.arrayLen 101) (Tryd.prog.elem 101)) := by kernel_rfl
theorem ten_size : Tryd.prog.elem 101 = 5 := by kernel_rfl
theorem slice_ten (g i : Nat) (hi : i < 10) (w : World) : (Instr.sliceAt 101 (.pointer (some ⟨g, 0, none⟩)) none (some (.int .i64 ((i : Int) + 1))) none).run Tryd.prog w = .ok (.slice (some ⟨g, 0, none⟩) (i + 1) 10) w := by
  have e : ((i : Int) + 1).toNat = i + 1 := by omega
  rw [run_sliceAt_array_h w _ _ ten_under .i64 _ (by omega) (by rw [ten_len]; omega), ten_len, ten_size, e]
  simp [slicedAt, go_sem]
set_option maxRecDepth 20000 in
set_option maxHeartbeats 2000000 in
theorem small_any (n : Nat) (w : World) (hn : n < 18446744073709551616) :
    Calls Tryd.prog 55 #[.int .u64 (n : Int)] w fun e w' => e = .returned (.string ⟨(small n).toArray⟩) ∧ Below w.heap.size w w' := by
  have HN := Lib.hid hn
  obtain ⟨S, hS⟩ : ∃ S, small n = S := ⟨_, rfl⟩
  rw [hS]
  have HS := Lib.hid hS
  clear hS
  go_enter Tryd.func55, Tryd.ntmps55
  go_wp2_with fail
  go_loopw [0, 4] (fun v0 v4 wr => ∃ (i m : Nat) (cs : Array Value) (pre : List UInt8), i ≤ 9 ∧ v4 = .int .i64 i ∧ v0 = .int .u64 m ∧ m < 2 * 128 ^ (9 - i) ∧ pre.length = i ∧ S = pre ++ sm (9 - i) m ∧ HasB cs pre ∧ Below w.heap.size w wr ∧ wr.heap[w.heap.size]? = some (.cells cs 101 (0, 0))) (fun v0 _ _ => (intOf v0).toNat)
  case atStart =>
    exact ⟨0, n, _, [], by omega, rfl, rfl, by rw [show 9 - 0 = 9 from rfl, num_two]; exact HN.out, rfl, HS.out.symm, ⟨rfl, fun j h => by simp at h⟩, (Below.refl _ _).alloc (Nat.le_refl _) _, heap_alloc_new w _⟩
  case round =>
    obtain ⟨i, m, cs, pre, hi, rfl, rfl, hm, hpl, hpre, hb, ho, hc⟩ := hrel
    have hcell : wr.cell? ⟨w.heap.size, i, none⟩ = some cs[i]! := by
      rw [cell_of_row wr _ i cs _ _ hc]; have := hb.1; simp [show i < cs.size by omega]
    have hfro : wr.frozen? ⟨w.heap.size, i, none⟩ = false := frozen_of_row wr _ i cs _ hc
    have i0 : (0 : Int) ≤ (i : Int) := by omega
    have i1 : (i : Int) < 10 := by omega
    have HO := Lib.hid (And.intro ho hc)
    have HB := Lib.hid (And.intro hb (And.intro hpl hpre))
    have HM := Lib.hid hm
    clear ho hc hb hpl hpre hm
    by_cases hlt : m < 128
    · obtain ⟨y, hy⟩ : ∃ y, UInt8.ofNat m = y := ⟨_, rfl⟩
      have hyn : y.toNat = m := by rw [← hy, byte_nat _ (by omega)]
      have hS : S = pre ++ [y] := by rw [HB.out.2.2, sm_last hlt, hy]
      have hlen : S.length = i + 1 := by rw [hS, List.length_append, HB.out.2.1]; rfl
      have hconv : (convert 46 9 (.slice (some ⟨w.heap.size, 0, none⟩) (i + 1) 10)).run Tryd.prog (wr.setCell ⟨w.heap.size, i, none⟩ (.int .u8 (m : Int))) = .ok (.string ⟨S.toArray⟩) (wr.setCell ⟨w.heap.size, i, none⟩ (.int .u8 (m : Int))) := by
        rw [← hlen]
        refine run_convert_bytes_back (P := Tryd.prog) _ 46 9 5 ⟨w.heap.size, 0, none⟩ 10 S Tryd.underlying46 Tryd.underlying5 Tryd.underlying9 ?_
        intro j hj
        have ha : (⟨w.heap.size, 0, none⟩ : Addr).add j = ⟨w.heap.size, j, none⟩ := by unfold Addr.add; split <;> simp_all
        have hrow := heap_setCell_same wr w.heap.size i cs _ (.int .u8 (m : Int)) HO.out.2
        rw [← hyn] at hrow
        have h2 := (HB.out.1.set (by rw [HB.out.2.1]; omega) y HB.out.2.1).2 j (by rw [← hS]; exact hj)
        rw [← hyn, ha, cell_of_row _ _ j _ _ _ hrow, h2]
        simp only [hS]
      have HF := Lib.hid (show Below w.heap.size w (wr.setCell ⟨w.heap.size, i, none⟩ (.int .u8 (m : Int))) from HO.out.1.setCell (Nat.le_refl _) _)
      have hsl := fun W => slice_ten w.heap.size i (by omega) W
      clear hy hyn hS hlen HS
      go_wp2
      go_ret
      exact ⟨rfl, HF.out⟩
    · have hi8 : i < 9 := by
        have h := HM.out
        by_cases h9 : i = 9
        · subst h9; have : m < 2 := by simpa using h
          omega
        · omega
      obtain ⟨y, hy⟩ : ∃ y, UInt8.ofNat (m % 128 + 128) = y := ⟨_, rfl⟩
      have hor := or_byte m
      rw [hy] at hor
      have hdiv : (m : Int) / 128 = ((m / 128 : Nat) : Int) := by omega
      have hsm : sm (9 - i) m = y :: sm (9 - (i + 1)) (m / 128) := by
        rw [show 9 - i = (9 - (i + 1)) + 1 by omega, sm_more hlt, hy]
      have hm2 : m / 128 < 2 * 128 ^ (9 - (i + 1)) := by
        have h := HM.out
        rw [show 9 - i = (9 - (i + 1)) + 1 by omega, Nat.pow_succ] at h
        rw [Nat.div_lt_iff_lt_mul (by omega)]; omega
      obtain ⟨m2, hmm⟩ : ∃ m2, m / 128 = m2 := ⟨_, rfl⟩
      have hlt2 : m2 < m := by omega
      rw [hmm] at hdiv hsm hm2
      have HR := Lib.hid (And.intro hsm (And.intro hm2 hlt2))
      clear hy hsm hm2 hmm hlt2
      go_wp2_with fail
      go_roundw
      case rel =>
        refine ⟨i + 1, m2, _, pre ++ [y], by omega, by go_num, rfl, HR.out.2.1, by rw [List.length_append, HB.out.2.1]; rfl, ?_, HB.out.1.set (by rw [HB.out.2.1]; omega) y HB.out.2.1, HO.out.1.setCell (Nat.le_refl _) _, heap_setCell_same wr _ i cs _ _ HO.out.2⟩
        rw [HB.out.2.2, HR.out.1, List.append_assoc]; rfl
      case measure =>
        have := HR.out.2.2
        simp [intOf]; omega
/-- Bytes as a string. -/
def bs (l : List UInt8) : ByteArray := ⟨l.toArray⟩
theorem bs_list (l : List UInt8) : (bs l).data.toList = l := rfl
theorem bs_size (l : List UInt8) : (bs l).size = l.length := by simp [bs, ByteArray.size]
theorem bs_append (a b : List UInt8) : bs a ++ bs b = bs (a ++ b) := by
  apply ByteArray.ext; simp [bs]
theorem bs_of (s : ByteArray) : bs s.data.toList = s := rfl
theorem bs_extract (l : List UInt8) (i j : Nat) : (bs l).extract i j = bs ((l.drop i).take (j - i)) := by
  apply ByteArray.ext
  apply Array.toList_inj.1
  rw [ByteArray.data_extract, Array.toList_extract, List.extract_eq_take_drop]
  rfl
theorem bs_get (l : List UInt8) (i : Nat) (h : i < (bs l).size) : (bs l)[i] = l[i]'(by rw [bs_size] at h; exact h) := rfl
theorem bs_inj {a b : List UInt8} (h : bs a = bs b) : a = b := by
  have := congrArg (fun s : ByteArray => s.data.toList) h
  exact this
set_option maxHeartbeats 400000 in
theorem text_any (l : List UInt8) (w : World) (hl : l.length ≤ 1099511627776) :
    Calls Tryd.prog 60 #[.string (bs l)] w fun e w' => e = .returned (.string (bs (text l))) ∧ Below w.heap.size w w' := by
  have hz := bs_size l
  have hsm := sm_len 9 l.length
  have hz2 : (bs (small l.length)).size ≤ 10 := by rw [bs_size]; exact hsm
  have HT : Hid (bs (small l.length) ++ bs l = bs (text l)) := Lib.hid (bs_append _ _)
  have HS : Hid (∀ W, Calls Tryd.prog 55 #[.int .u64 (l.length : Int)] W fun e w' => e = .returned (.string (bs (small l.length))) ∧ Below W.heap.size W w') := Lib.hid (fun W => small_any l.length W (by omega))
  obtain ⟨S, hS⟩ : ∃ S, bs (small l.length) = S := ⟨_, rfl⟩
  obtain ⟨X, hX⟩ : ∃ X, bs l = X := ⟨_, rfl⟩
  obtain ⟨n, hn⟩ : ∃ n, l.length = n := ⟨_, rfl⟩
  rw [hS, hX] at HT
  rw [hS] at HS hz2
  rw [hn] at HS hz hl
  rw [hX] at hz ⊢
  clear hS hX hsm hn
  go_enter Tryd.func60, Tryd.ntmps60
  go_wp2_with fail
  refine (HS.out _).mono ?_
  rintro e w1 ⟨rfl, hb1⟩
  go_wp2
  go_ret
  exact ⟨by rw [← HT.out]; rfl, hb1⟩
theorem text_le (l : List UInt8) : (text l).length ≤ l.length + 10 := by rw [text_len]; have := sm_len 9 l.length; show (sm 9 l.length).length + _ ≤ _; omega
theorem or_u64 (a c k : Nat) (ha : a < 2 ^ k) (h : a + c * 2 ^ k < 18446744073709551616) : bits .or .u64 (a : Int) ((c * 2 ^ k : Nat) : Int) = ((a + c * 2 ^ k : Nat) : Int) := by
  have e : a ||| c * 2 ^ k = a + c * 2 ^ k := by
    have := Nat.two_pow_add_eq_or_of_lt ha c
    rw [Nat.or_comm, Nat.mul_comm c, Nat.add_comm, this]
  have h1 : (BitVec.ofInt 64 (a : Int)).toNat = a := by
    rw [BitVec.ofInt_natCast, BitVec.toNat_ofNat]; exact Nat.mod_eq_of_lt (by omega)
  have h2 : (BitVec.ofInt 64 ((c * 2 ^ k : Nat) : Int)).toNat = c * 2 ^ k := by
    rw [BitVec.ofInt_natCast, BitVec.toNat_ofNat]; exact Nat.mod_eq_of_lt (by omega)
  show IntKind.u64.wrap ((BitVec.ofInt 64 (a : Int) ||| BitVec.ofInt 64 ((c * 2 ^ k : Nat) : Int)).toNat : Int) = _
  rw [BitVec.toNat_or, h1, h2, e, IntKind.wrap_u64]
  omega
theorem andNot_byte (y : UInt8) : bits .andNot .u8 (y.toNat : Int) 128 = ((y.toNat % 128 : Nat) : Int) := by
  have : ∀ x : Fin 256, bits .andNot .u8 ((x.val : Nat) : Int) 128 = ((x.val % 128 : Nat) : Int) := by decide +kernel
  exact this ⟨y.toNat, y.toNat_lt⟩
def gsV (r : Option (Nat × Nat)) : Value := match r with
  | none => .tuple #[.int .u64 0, .int .i64 (-1)]
  | some (n, k) => .tuple #[.int .u64 (n : Int), .int .i64 (k : Int)]
set_option maxRecDepth 20000 in
set_option maxHeartbeats 2000000 in
theorem nsmall_long (l : List UInt8) (w : World) (hq : 10 < l.length) (hl : l.length ≤ 2199023255552) :
    Calls Tryd.prog 70 #[.string (bs l)] w fun e w' => e = .returned (gsV (gs 0 0 l)) ∧ w = w' := by
  have hz := bs_size l
  have HG : ∀ (i : Nat) (h : i < (bs l).size) (h2 : i < l.length), (bs l)[i]'h = l[i]'h2 := fun _ _ _ => rfl
  obtain ⟨X, hX⟩ : ∃ X, bs l = X := ⟨_, rfl⟩
  rw [hX] at hz HG ⊢
  have HGG := Lib.hid HG
  clear hX HG
  obtain ⟨r, hr⟩ : ∃ r, gs 0 0 l = r := ⟨_, rfl⟩
  rw [hr]
  have HR := Lib.hid hr
  clear hr
  have hq : (10 : Int) < (l.length : Int) := by omega
  go_enter Tryd.func70, Tryd.ntmps70
  go_wp2_with fail
  go_loopw [4, 10] (fun v4 v10 wr => ∃ (i acc : Nat), i ≤ 10 ∧ v10 = .int .i64 i ∧ v4 = .int .u64 acc ∧ acc < 128 ^ i ∧ gs i acc (l.drop i) = r ∧ wr = w) (fun _ v10 _ => 10 - (intOf v10).toNat)
  case atStart => exact ⟨0, 0, by omega, rfl, rfl, by simp, HR.out, rfl⟩
  case round =>
    obtain ⟨i, acc, hi, rfl, rfl, hacc, hgs, rfl⟩ := hrel
    by_cases hlt : i < 10
    · have hil : i < l.length := by omega
      have hix : i < X.size := by omega
      have hg := HGG.out i hix hil
      have hd := List.drop_eq_getElem_cons hil
      obtain ⟨y, hy⟩ : ∃ y, l[i] = y := ⟨_, rfl⟩
      rw [hy] at hg hd
      rw [hd] at hgs
      have hyl := y.toNat_lt
      have han := andNot_byte y
      have HS := Lib.hid hgs
      have HACC := Lib.hid hacc
      clear hgs hd hy hacc
      have i0 : (0 : Int) ≤ (i : Int) := by omega
      have i1 : (i : Int) < (10 : Int) := by omega
      obtain ⟨z, hyz⟩ : ∃ z, y.toNat = z := ⟨_, rfl⟩
      have hgz : X[i].toNat = z := by rw [hg]; exact hyz
      rw [hyz] at han hyl
      have HYZ := Lib.hid hyz
      clear hg hyz
      by_cases hbad : (i = 9 ∧ 1 < z) ∨ (0 < i ∧ z = 0)
      · have hr : r = none := by
          rw [← HS.out]; unfold gs; rw [if_neg (by omega), if_pos (by rw [HYZ.out]; exact hbad)]
        subst hr
        rcases hbad with ⟨rfl, hb⟩ | ⟨h0, rfl⟩
        · go_wp2
          go_ret2
          exact ⟨rfl, rfl⟩
        · by_cases h9 : i = 9
          · subst h9
            go_wp2
            go_ret2
            exact ⟨rfl, rfl⟩
          · have hb9 : ((i : Int) == 9) = false := by simp; omega
            go_wp2
            go_ret2
            exact ⟨rfl, rfl⟩
      · have hgs2 : gs i acc (y :: l.drop (i + 1)) = if z < 128 then some (acc + z * 128 ^ i, i + 1) else gs (i + 1) (acc + (z - 128) * 128 ^ i) (l.drop (i + 1)) := by
          rw [← HYZ.out]; rw [← HYZ.out] at hbad
          conv => lhs; unfold gs
          rw [if_neg (by omega), if_neg hbad]
        have hpow : (128 : Nat) ^ i = 2 ^ (7 * i) := by rw [Nat.pow_mul]
        have hfit : acc + z % 128 * 2 ^ (7 * i) < 18446744073709551616 := by
          have ha := HACC.out
          rw [hpow] at ha
          by_cases h9 : i = 9
          · subst h9
            have : z ≤ 1 := by omega
            have : z % 128 ≤ 1 := by omega
            have e : (2 : Nat) ^ (7 * 9) = 9223372036854775808 := by decide
            rw [e] at ha ⊢
            omega
          · have h1 : acc + z % 128 * 2 ^ (7 * i) < 128 * 2 ^ (7 * i) := by
              have h2 : z % 128 ≤ 127 := by omega
              have h3 := Nat.mul_le_mul_right (2 ^ (7 * i)) h2
              omega
            have h4 : 128 * 2 ^ (7 * i) = 2 ^ (7 * i + 7) := by rw [Nat.pow_add, Nat.mul_comm]
            have h5 : (2 : Nat) ^ (7 * i + 7) ≤ 2 ^ 63 := Nat.pow_le_pow_right (by omega) (by omega)
            have h6 : (2 : Nat) ^ 63 = 9223372036854775808 := by decide
            omega
        have hor := or_u64 acc (z % 128) (7 * i) (by rw [← hpow]; exact HACC.out) hfit
        obtain ⟨sh, hsh⟩ : ∃ sh, z % 128 * 2 ^ (7 * i) = sh := ⟨_, rfl⟩
        rw [hsh] at hor hfit
        have hw : IntKind.u64.wrap (((z % 128 : Nat) : Int) * 2 ^ (7 * (i : Int)).toNat) = (sh : Int) := by
          have e : (7 * (i : Int)).toNat = 7 * i := by omega
          rw [e, IntKind.wrap_u64]
          have : ((z % 128 : Nat) : Int) * 2 ^ (7 * i) = (sh : Int) := by rw [← hsh, Int.natCast_mul, Int.natCast_pow]; rfl
          rw [this]; omega
        have hnx : acc + z % 128 * 2 ^ (7 * i) < 128 ^ (i + 1) := by
          have ha := HACC.out
          have h2 : z % 128 ≤ 127 := by omega
          have h3 := Nat.mul_le_mul_right (128 ^ i) h2
          rw [← hpow, Nat.pow_succ]; omega
        have hone : z < 128 → acc + z * 128 ^ i = acc + z % 128 * 2 ^ (7 * i) := fun h => by rw [hpow, Nat.mod_eq_of_lt h]
        have htwo : ¬ z < 128 → acc + (z - 128) * 128 ^ i = acc + z % 128 * 2 ^ (7 * i) := fun h => by rw [hpow, show z - 128 = z % 128 by omega]
        rw [hsh] at hnx hone htwo
        have HSH := Lib.hid (And.intro hgs2 (And.intro hnx (And.intro hone htwo)))
        obtain ⟨zl, hzl⟩ : ∃ zl, z % 128 = zl := ⟨_, rfl⟩
        rw [hzl] at hw han
        have hzl2 : zl < 128 := by omega
        obtain ⟨ac2, hac⟩ : ∃ ac2, acc + sh = ac2 := ⟨_, rfl⟩
        rw [hac] at HSH hor
        clear hsh hpow hgs2 hzl hnx hone htwo hfit hac
        by_cases hlast : z < 128
        · have hrr : r = some (ac2, i + 1) := by
            rw [← HS.out, HSH.out.1, if_pos hlast, HSH.out.2.2.1 hlast]
          subst hrr
          by_cases h9 : i = 9
          · have hz1 : ¬ 1 < z := fun h => hbad (.inl ⟨h9, h⟩)
            have hz0 : ¬ z = 0 := fun h => hbad (.inr ⟨by omega, h⟩)
            have hb9 : ((i : Int) == 9) = true := by simp; omega
            have hbz : ((z : Int) == 0) = false := by simp; omega
            have hi0 : (0 : Int) < (i : Int) := by omega
            clear hbad h9
            go_wp2
            go_ret2
            exact ⟨rfl, rfl⟩
          · have hb9 : ((i : Int) == 9) = false := by simp; omega
            by_cases h0 : i = 0
            · have hi0 : ¬ (0 : Int) < (i : Int) := by omega
              clear hbad h9 h0
              go_wp2
              go_ret2
              exact ⟨rfl, rfl⟩
            · have hz0 : ¬ z = 0 := fun h => hbad (.inr ⟨by omega, h⟩)
              have hbz : ((z : Int) == 0) = false := by simp; omega
              have hi0 : (0 : Int) < (i : Int) := by omega
              clear hbad h9 h0
              go_wp2
              go_ret2
              exact ⟨rfl, rfl⟩
        · have hnext : gs (i + 1) ac2 (l.drop (i + 1)) = r := by
            rw [← HS.out, HSH.out.1, if_neg hlast, HSH.out.2.2.2 hlast]
          have HNX := Lib.hid (And.intro hnext HSH.out.2.1)
          have hz0 : ((z : Int) == 0) = false := by simp; omega
          have h9 : i ≠ 9 := fun h => hbad (.inl ⟨h, by omega⟩)
          have hb9 : ((i : Int) == 9) = false := by simp; omega
          clear hnext hbad
          go_wp2
          all_goals
            go_roundw
            case rel => exact ⟨i + 1, ac2, by omega, by go_num, rfl, HNX.out.2, HNX.out.1, by first | trivial | rfl⟩
            case measure => simp [intOf]; omega
    · obtain rfl : i = 10 := by omega
      have hr : r = none := by
        rw [← hgs]
        cases l.drop 10 with
        | nil => rfl
        | cons a b => unfold gs; rw [if_pos (by omega)]
      subst hr
      clear hgs hacc
      go_wp2
      go_ret2
      exact ⟨rfl, rfl⟩
set_option maxRecDepth 20000 in
set_option maxHeartbeats 2000000 in
theorem nsmall_short (l : List UInt8) (w : World) (hq : l.length ≤ 10) (hl : l.length ≤ 2199023255552) :
    Calls Tryd.prog 70 #[.string (bs l)] w fun e w' => e = .returned (gsV (gs 0 0 l)) ∧ w = w' := by
  have hz := bs_size l
  have HG : ∀ (i : Nat) (h : i < (bs l).size) (h2 : i < l.length), (bs l)[i]'h = l[i]'h2 := fun _ _ _ => rfl
  obtain ⟨X, hX⟩ : ∃ X, bs l = X := ⟨_, rfl⟩
  rw [hX] at hz HG ⊢
  have HGG := Lib.hid HG
  clear hX HG
  obtain ⟨r, hr⟩ : ∃ r, gs 0 0 l = r := ⟨_, rfl⟩
  rw [hr]
  have HR := Lib.hid hr
  clear hr
  obtain ⟨q, hql⟩ : ∃ q, l.length = q := ⟨_, rfl⟩
  rw [hql] at hz hq hl
  go_enter Tryd.func70, Tryd.ntmps70
  go_wp2_with fail
  go_loopw [4, 10] (fun v4 v10 wr => ∃ (i acc : Nat), i ≤ q ∧ v10 = .int .i64 i ∧ v4 = .int .u64 acc ∧ acc < 128 ^ i ∧ gs i acc (l.drop i) = r ∧ wr = w) (fun _ v10 _ => 10 - (intOf v10).toNat)
  case atStart => exact ⟨0, 0, by omega, rfl, rfl, by simp, HR.out, rfl⟩
  case round =>
    obtain ⟨i, acc, hi, rfl, rfl, hacc, hgs, rfl⟩ := hrel
    by_cases hlt : i < q
    · have hil : i < l.length := by omega
      have hix : i < X.size := by omega
      have hg := HGG.out i hix hil
      have hd := List.drop_eq_getElem_cons hil
      obtain ⟨y, hy⟩ : ∃ y, l[i] = y := ⟨_, rfl⟩
      rw [hy] at hg hd
      rw [hd] at hgs
      have hyl := y.toNat_lt
      have han := andNot_byte y
      have HS := Lib.hid hgs
      have HACC := Lib.hid hacc
      clear hgs hd hy hacc
      have i0 : (0 : Int) ≤ (i : Int) := by omega
      have i1 : (i : Int) < (q : Int) := by omega
      obtain ⟨z, hyz⟩ : ∃ z, y.toNat = z := ⟨_, rfl⟩
      have hgz : X[i].toNat = z := by rw [hg]; exact hyz
      rw [hyz] at han hyl
      have HYZ := Lib.hid hyz
      clear hg hyz
      by_cases hbad : (i = 9 ∧ 1 < z) ∨ (0 < i ∧ z = 0)
      · have hr : r = none := by
          rw [← HS.out]; unfold gs; rw [if_neg (by omega), if_pos (by rw [HYZ.out]; exact hbad)]
        subst hr
        rcases hbad with ⟨rfl, hb⟩ | ⟨h0, rfl⟩
        · go_wp2
          go_ret2
          exact ⟨rfl, rfl⟩
        · by_cases h9 : i = 9
          · subst h9
            go_wp2
            go_ret2
            exact ⟨rfl, rfl⟩
          · have hb9 : ((i : Int) == 9) = false := by simp; omega
            go_wp2
            go_ret2
            exact ⟨rfl, rfl⟩
      · have hgs2 : gs i acc (y :: l.drop (i + 1)) = if z < 128 then some (acc + z * 128 ^ i, i + 1) else gs (i + 1) (acc + (z - 128) * 128 ^ i) (l.drop (i + 1)) := by
          rw [← HYZ.out]; rw [← HYZ.out] at hbad
          conv => lhs; unfold gs
          rw [if_neg (by omega), if_neg hbad]
        have hpow : (128 : Nat) ^ i = 2 ^ (7 * i) := by rw [Nat.pow_mul]
        have hfit : acc + z % 128 * 2 ^ (7 * i) < 18446744073709551616 := by
          have ha := HACC.out
          rw [hpow] at ha
          by_cases h9 : i = 9
          · subst h9
            have : z ≤ 1 := by omega
            have : z % 128 ≤ 1 := by omega
            have e : (2 : Nat) ^ (7 * 9) = 9223372036854775808 := by decide
            rw [e] at ha ⊢
            omega
          · have h1 : acc + z % 128 * 2 ^ (7 * i) < 128 * 2 ^ (7 * i) := by
              have h2 : z % 128 ≤ 127 := by omega
              have h3 := Nat.mul_le_mul_right (2 ^ (7 * i)) h2
              omega
            have h4 : 128 * 2 ^ (7 * i) = 2 ^ (7 * i + 7) := by rw [Nat.pow_add, Nat.mul_comm]
            have h5 : (2 : Nat) ^ (7 * i + 7) ≤ 2 ^ 63 := Nat.pow_le_pow_right (by omega) (by omega)
            have h6 : (2 : Nat) ^ 63 = 9223372036854775808 := by decide
            omega
        have hor := or_u64 acc (z % 128) (7 * i) (by rw [← hpow]; exact HACC.out) hfit
        obtain ⟨sh, hsh⟩ : ∃ sh, z % 128 * 2 ^ (7 * i) = sh := ⟨_, rfl⟩
        rw [hsh] at hor hfit
        have hw : IntKind.u64.wrap (((z % 128 : Nat) : Int) * 2 ^ (7 * (i : Int)).toNat) = (sh : Int) := by
          have e : (7 * (i : Int)).toNat = 7 * i := by omega
          rw [e, IntKind.wrap_u64]
          have : ((z % 128 : Nat) : Int) * 2 ^ (7 * i) = (sh : Int) := by rw [← hsh, Int.natCast_mul, Int.natCast_pow]; rfl
          rw [this]; omega
        have hnx : acc + z % 128 * 2 ^ (7 * i) < 128 ^ (i + 1) := by
          have ha := HACC.out
          have h2 : z % 128 ≤ 127 := by omega
          have h3 := Nat.mul_le_mul_right (128 ^ i) h2
          rw [← hpow, Nat.pow_succ]; omega
        have hone : z < 128 → acc + z * 128 ^ i = acc + z % 128 * 2 ^ (7 * i) := fun h => by rw [hpow, Nat.mod_eq_of_lt h]
        have htwo : ¬ z < 128 → acc + (z - 128) * 128 ^ i = acc + z % 128 * 2 ^ (7 * i) := fun h => by rw [hpow, show z - 128 = z % 128 by omega]
        rw [hsh] at hnx hone htwo
        have HSH := Lib.hid (And.intro hgs2 (And.intro hnx (And.intro hone htwo)))
        obtain ⟨zl, hzl⟩ : ∃ zl, z % 128 = zl := ⟨_, rfl⟩
        rw [hzl] at hw han
        have hzl2 : zl < 128 := by omega
        obtain ⟨ac2, hac⟩ : ∃ ac2, acc + sh = ac2 := ⟨_, rfl⟩
        rw [hac] at HSH hor
        clear hsh hpow hgs2 hzl hnx hone htwo hfit hac
        by_cases hlast : z < 128
        · have hrr : r = some (ac2, i + 1) := by
            rw [← HS.out, HSH.out.1, if_pos hlast, HSH.out.2.2.1 hlast]
          subst hrr
          by_cases h9 : i = 9
          · have hz1 : ¬ 1 < z := fun h => hbad (.inl ⟨h9, h⟩)
            have hz0 : ¬ z = 0 := fun h => hbad (.inr ⟨by omega, h⟩)
            have hb9 : ((i : Int) == 9) = true := by simp; omega
            have hbz : ((z : Int) == 0) = false := by simp; omega
            have hi0 : (0 : Int) < (i : Int) := by omega
            clear hbad h9
            go_wp2
            go_ret2
            exact ⟨rfl, rfl⟩
          · have hb9 : ((i : Int) == 9) = false := by simp; omega
            by_cases h0 : i = 0
            · have hi0 : ¬ (0 : Int) < (i : Int) := by omega
              clear hbad h9 h0
              go_wp2
              go_ret2
              exact ⟨rfl, rfl⟩
            · have hz0 : ¬ z = 0 := fun h => hbad (.inr ⟨by omega, h⟩)
              have hbz : ((z : Int) == 0) = false := by simp; omega
              have hi0 : (0 : Int) < (i : Int) := by omega
              clear hbad h9 h0
              go_wp2
              go_ret2
              exact ⟨rfl, rfl⟩
        · have hnext : gs (i + 1) ac2 (l.drop (i + 1)) = r := by
            rw [← HS.out, HSH.out.1, if_neg hlast, HSH.out.2.2.2 hlast]
          have HNX := Lib.hid (And.intro hnext HSH.out.2.1)
          have hz0 : ((z : Int) == 0) = false := by simp; omega
          have h9 : i ≠ 9 := fun h => hbad (.inl ⟨h, by omega⟩)
          have hb9 : ((i : Int) == 9) = false := by simp; omega
          clear hnext hbad
          go_wp2
          all_goals
            go_roundw
            case rel => exact ⟨i + 1, ac2, by omega, by go_num, rfl, HNX.out.2, HNX.out.1, by first | trivial | rfl⟩
            case measure => simp [intOf]; omega
    · obtain rfl : i = q := by omega
      have hr : r = none := by
        rw [← hgs]
        rw [List.drop_eq_nil_of_le (by omega)]; rfl
      subst hr
      clear hgs hacc
      go_wp2
      go_ret2
      exact ⟨rfl, rfl⟩
theorem nsmall_any (l : List UInt8) (w : World) (hl : l.length ≤ 2199023255552) :
    Calls Tryd.prog 70 #[.string (bs l)] w fun e w' => e = .returned (gsV (gs 0 0 l)) ∧ w = w' := by
  by_cases h : 10 < l.length
  · exact nsmall_long l w h hl
  · exact nsmall_short l w (by omega) hl
end Go.Proofs.YtdidengokijcjaaDoor.FrW
/-
  THE SHELF LAYINGS OF strings.Builder AT THIS PROGRAM, IN PLAIN WORDS: written by lay-plain.
-/
namespace Go.Proofs
open Go.Shelf
def Tryd.lays169_ren : Go.Shelf.Ren := ⟨fun | 169 => 17 | n => n, fun | 70 => 45 | 9 => 9 | 0 => 0 | 72 => 48 | 37 => 46 | 127 => 64 | 3 => 3 | 5 => 5 | n => n, fun | n => n⟩
theorem Tryd.lays169 : Go.Proofs.Lays.n169 Tryd.prog Tryd.lays169_ren := {
  mixed := by kernel_rfl
  f169 := Tryd.func17.trans (congrArg some (by kernel_rfl))
  t0 := Tryd.underlying0
  a0 := Tryd.isAgg0
  z0 := Tryd.sizeOf0
  v0 := Tryd.zeroValue0
  t3 := Tryd.underlying3
  a3 := Tryd.isAgg3
  z3 := Tryd.sizeOf3
  v3 := Tryd.zeroValue3
  t9 := Tryd.underlying9
  a9 := Tryd.isAgg9
  z9 := Tryd.sizeOf9
  v9 := Tryd.zeroValue9
  t37 := Tryd.underlying46
  a37 := Tryd.isAgg46
  z37 := Tryd.sizeOf46
  v37 := Tryd.zeroValue46
  t70 := Tryd.underlying45
  a70 := Tryd.isAgg45
  z70 := Tryd.sizeOf45
  v70 := Tryd.zeroValue45
  t72 := Tryd.underlying48
  a72 := Tryd.isAgg48
  z72 := Tryd.sizeOf48
  v72 := Tryd.zeroValue48
  t127 := Tryd.underlying64
  a127 := Tryd.isAgg64
  z127 := Tryd.sizeOf64
  v127 := Tryd.zeroValue64 }
theorem Tryd.Builder_Extra_169 : Builder.Extra Tryd.prog Tryd.lays169_ren := {
  sizeBuilder := by kernel_rfl
  liesBuilder := by kernel_rfl
  t5 := Tryd.underlying5
  a5 := Tryd.isAgg5
  z5 := Tryd.sizeOf5
  v5 := Tryd.zeroValue5
  infoByte := by kernel_rfl
  cellsByte := by kernel_rfl
  sizeByte := by kernel_rfl
  neB5 := by decide }
end Go.Proofs
/-
  strings.Builder: copyCheck, WriteString, WriteByte, String: WHAT A BUILDER OF THE CALL'S OWN HOLDS.
-/
namespace Go.Proofs.YtdidengokijcjaaDoor.FrW
set_option linter.unusedVariables false
open Go.RowKit FrM
/-- A builder in the block b, of the call's own blocks (from B on), that holds these bytes. -/
def Bd (B b : Nat) (l : List UInt8) (w : World) : Prop := Lib.IsBuilder 48 5 B b (Lib.byteCells l) w
theorem builderAt_later {B b : Nat} {p : Value} {bs : List Value} {w w' : World} (h : Lib.BuilderAt 48 5 B b p bs w) (hb : Below w.heap.size w w') : Lib.BuilderAt 48 5 B b p bs w' := by
  have hlt := h.lt
  obtain ⟨hB, v, h1, h2, h3⟩ := h
  exact ⟨hB, v, (hb.block _ hlt).trans h1, own_later h2 hb, h3⟩
theorem Bd.later {B b : Nat} {l : List UInt8} {w w' : World} (h : Bd B b l w) (hb : Below w.heap.size w w') : Bd B b l w' := by
  rcases h with h | h
  · exact .inl (builderAt_later h hb)
  · exact .inr (builderAt_later h hb)
theorem Bd.fresh (w : World) : Bd w.heap.size w.heap.size [] (w.alloc (.cells #[.pointer none, .slice none 0 0] 48 (0, 0))) := Lib.fresh_isBuilder _ _ w
theorem Bd.lt {B b : Nat} {l : List UInt8} {w : World} (h : Bd B b l w) : b < w.heap.size := by
  rcases h with h | h
  · exact h.lt
  · exact h.lt
/-- What a write leaves of other blocks: all but its own and rows of bytes. -/
def Keeps (b : Nat) (w w' : World) : Prop := ∀ (g : Nat) (cs : Array Value) (T : TypeId), g ≠ b → T ≠ 5 → w.heap[g]? = some (.cells cs T (0, 0)) → w'.heap[g]? = some (.cells cs T (0, 0))
theorem Keeps.trans {b : Nat} {w w1 w2 : World} (h : Keeps b w w1) (k : Keeps b w1 w2) : Keeps b w w2 := fun g cs T hg hT hc => k g cs T hg hT (h g cs T hg hT hc)
theorem Keeps.refl (b : Nat) (w : World) : Keeps b w w := fun _ _ _ _ _ hc => hc
theorem Keeps.of_below {b : Nat} {w w' : World} (h : Below w.heap.size w w') : Keeps b w w' := fun g cs T _ _ hc => (h.block _ (Array.getElem?_eq_some_iff.1 hc).1).trans hc
theorem noEscape_any (x : Value) (w : World) : (callFunc 82 #[x]).run Tryd.prog w = .ok (.value x) w := by
  rw [run_callFunc_extern Tryd.func82 (by kernel_rfl) (by kernel_rfl) (by kernel_rfl) (e := Extern.AbiNoEscape.same) (by kernel_rfl), Lib.run_noEscape]
  rfl
theorem sizeBd : (Tryd.prog.info? 48).map (·.size) = some 2 := by kernel_rfl
theorem liesBd : liesAt Tryd.prog Tryd.prog.depth 48 (2 / Tryd.prog.cellsOf 48) 0 48 1 = true := by kernel_rfl
set_option maxRecDepth 20000 in
theorem cc_used (b : Nat) (w : World) (h0 : w.cell? ⟨b, 0, none⟩ = some (.pointer (some ⟨b, 0, none⟩))) :
    Calls Tryd.prog 67 #[.pointer (some ⟨b, 0, none⟩)] w fun e w' => e = .returned (.tuple #[]) ∧ w' = w := by
  obtain ⟨j, hj, _⟩ := Option.map_eq_some_iff.1 sizeBd
  have hne := Lib.run_neq_ptr_same (P := Tryd.prog) w ⟨b, 0, none⟩ Tryd.underlying45 hj
  go_enter Tryd.func67, Tryd.ntmps67
  go_wp2
  go_end0
  exact ⟨rfl, rfl⟩
set_option maxRecDepth 20000 in
theorem cc_fresh (b : Nat) (w : World) (h0 : w.cell? ⟨b, 0, none⟩ = some (.pointer none)) (hsh : w.shape? b = some (48, 2)) (hfz : w.frozen? ⟨b, 0, none⟩ = false) :
    Calls Tryd.prog 67 #[.pointer (some ⟨b, 0, none⟩)] w fun e w' => e = .returned (.tuple #[]) ∧ w' = w.setCell ⟨b, 0, none⟩ (.pointer (some ⟨b, 0, none⟩)) := by
  obtain ⟨j, hj, hjs⟩ := Option.map_eq_some_iff.1 sizeBd
  have h1 := Lib.run_to_unsafe (P := Tryd.prog) w ⟨b, 0, none⟩ Tryd.underlying45 Tryd.underlying118 hj (by rw [hjs]; decide) hsh (Nat.zero_lt_succ 1)
  have h2 := noEscape_any (.pointer (some ⟨b, 0, none⟩)) w
  have h3 := Lib.run_from_unsafe (P := Tryd.prog) w ⟨b, 0, none⟩ Tryd.underlying118 Tryd.underlying45 hj hsh liesBd
  go_enter Tryd.func67, Tryd.ntmps67
  go_wp2
  go_end0
  exact ⟨rfl, rfl⟩
theorem cc_any (B b : Nat) (l : List Value) (w : World) (h : Lib.IsBuilder 48 5 B b l w) :
    Calls Tryd.prog 67 #[.pointer (some ⟨b, 0, none⟩)] w fun e w' => e = .returned (.tuple #[]) ∧ Lib.BuilderAt 48 5 B b (.pointer (some ⟨b, 0, none⟩)) l w' ∧ Below B w w' ∧ Keeps b w w' := by
  rcases h with h | h
  · refine (cc_fresh b w h.cell0 h.shape h.frozen0).mono ?_
    rintro e w' ⟨rfl, rfl⟩
    exact ⟨rfl, h.used _, (Below.refl B w).setCell (p := ⟨b, 0, none⟩) h.1 _, fun g cs T hg hT hc => (Below.heap_setCell _ _ _ _ hg).trans hc⟩
  · refine (cc_used b w h.cell0).mono ?_
    rintro e w' ⟨rfl, rfl⟩
    exact ⟨rfl, h, Below.refl B _, Keeps.refl _ _⟩
theorem elemU8 : Elem Tryd.prog 5 (.int .u8 0) 1 1 := by unfold Elem; kernel_rfl
theorem own_slice {W : World} {B n : Nat} {e : TypeId} {v : Value} {xs : List Value} (h : W.ownsRow B e 1 v n xs) : ∃ ao n' cap, v = .slice ao n' cap := by
  rcases h.2 with ⟨hv, _⟩ | ⟨g, cap, cur, hv, _⟩
  · exact ⟨_, _, _, hv⟩
  · exact ⟨_, _, _, hv⟩
theorem put_facts {w w1 w2 : World} {B b n' cap : Nat} {ao : Option Addr} {v : Value} {l m : List UInt8} (hB : B ≤ b) (hbk : w1.heap[b]? = some (.cells #[.pointer (some ⟨b, 0, none⟩), v] 48 (0, 0)))
    (hown : w1.ownsRow B 5 1 v (Lib.byteCells l).length (Lib.byteCells l)) (hne : v.ownBlock ≠ some b) (hb1 : Below B w w1) (hbz : B ≤ w1.heap.size) (hkk : Keeps b w w1) (hgrow : w1.grownBy w2 v.ownBlock)
    (hown' : w2.ownsRow B 5 1 (.slice ao n' cap) ((Lib.byteCells l).length + m.length) (Lib.byteCells l ++ Lib.byteCells m)) :
    w2.cell? ⟨b, 0, none⟩ = some (.pointer (some ⟨b, 0, none⟩)) ∧ w2.cell? ⟨b, 1, none⟩ = some v ∧ w2.frozen? ⟨b, 1, none⟩ = false ∧
      Hid (Lib.BuilderAt 48 5 B b (.pointer (some ⟨b, 0, none⟩)) (Lib.byteCells (l ++ m)) (w2.setCell ⟨b, 1, none⟩ (.slice ao n' cap)) ∧ Below B w (w2.setCell ⟨b, 1, none⟩ (.slice ao n' cap)) ∧ Keeps b w (w2.setCell ⟨b, 1, none⟩ (.slice ao n' cap))) := by
  have hlt : b < w1.heap.size := (Array.getElem?_eq_some_iff.1 hbk).1
  have hb2 : w2.heap[b]? = some (.cells #[.pointer (some ⟨b, 0, none⟩), v] 48 (0, 0)) := by
    rw [hgrow.block b hlt (fun e => hne e.symm)]; exact hbk
  refine ⟨by rw [Lib.cell_of_heap hb2]; rfl, by rw [Lib.cell_of_heap hb2]; rfl, Lib.frozen_of_heap hb2 1, Lib.hid ⟨?_, ?_, ?_⟩⟩
  · refine Lib.BuilderAt.put (T := 48) (e := 5) hB hb2 ?_ (by decide)
    have e1 : Lib.byteCells (l ++ m) = Lib.byteCells l ++ Lib.byteCells m := by simp [Lib.byteCells]
    rw [e1, List.length_append, Lib.byteCells_length m]
    exact hown'
  · exact (hb1.grown hgrow hbz (fun k hk => (hown.lt k hk).1)).setCell (p := ⟨b, 1, none⟩) hB _
  · intro g cs T hg hT hc
    have h1 := hkk g cs T hg hT hc
    rw [Below.heap_setCell _ _ _ _ hg, hgrow.block g (Array.getElem?_eq_some_iff.1 h1).1 (fun e => ?_)]
    · exact h1
    · rcases hown.2 with ⟨hv, _⟩ | ⟨g2, cap2, cur2, hv, _, hg2, _⟩
      · rw [hv] at e; simp [Value.ownBlock] at e
      · rw [hv] at e
        simp only [Value.ownBlock, Option.some.injEq] at e
        rw [e, hg2] at h1
        injection h1 with h1
        injection h1 with h1 h2 h3
        exact hT h2.symm
theorem put_facts1 {w w1 w2 : World} {B b n' cap : Nat} {ao : Option Addr} {v : Value} {l : List UInt8} {c : UInt8} {x : Int} (hB : B ≤ b) (hbk : w1.heap[b]? = some (.cells #[.pointer (some ⟨b, 0, none⟩), v] 48 (0, 0)))
    (hown : w1.ownsRow B 5 1 v (Lib.byteCells l).length (Lib.byteCells l)) (hne : v.ownBlock ≠ some b) (hb1 : Below B w w1) (hbz : B ≤ w1.heap.size) (hkk : Keeps b w w1) (hgrow : (w1.alloc (.cells #[.int .u8 x] 5 (0, 0))).grownBy w2 v.ownBlock)
    (hown' : w2.ownsRow B 5 1 (.slice ao n' cap) ((Lib.byteCells l).length + 1) (Lib.byteCells l ++ [.int .u8 (c.toNat : Int)])) :
    w2.cell? ⟨b, 0, none⟩ = some (.pointer (some ⟨b, 0, none⟩)) ∧ w2.cell? ⟨b, 1, none⟩ = some v ∧ w2.frozen? ⟨b, 1, none⟩ = false ∧
      Hid (Lib.BuilderAt 48 5 B b (.pointer (some ⟨b, 0, none⟩)) (Lib.byteCells (l ++ [c])) (w2.setCell ⟨b, 1, none⟩ (.slice ao n' cap)) ∧ Below B w (w2.setCell ⟨b, 1, none⟩ (.slice ao n' cap)) ∧ Keeps b w (w2.setCell ⟨b, 1, none⟩ (.slice ao n' cap))) :=
  put_facts (w := w) (m := [c]) hB ((Lib.alloc_old w1 _ b (Array.getElem?_eq_some_iff.1 hbk).1).trans hbk) (hown.alloc _) hne (hb1.alloc hbz _) (by simp; omega) (hkk.trans (Keeps.of_below ((Below.refl _ _).alloc (Nat.le_refl _) _))) hgrow hown'
theorem alloc_one (w : World) (x : Int) : ∀ j u, ([.int .u8 x] : List Value)[j]? = some u → (w.alloc (.cells #[.int .u8 x] 5 (0, 0))).cell? ((⟨w.heap.size, 0, none⟩ : Addr).add j) = some u := by
  intro j u hj
  match j, hj with
  | 0, hj => simp at hj; subst hj; simp [Addr.add]
theorem one_cell (x : Int) : ∀ u ∈ ([.int .u8 x] : List Value), u.oneCell' = true := by
  intro u hu; simp at hu; subst hu; rfl
/-- WriteString. -/
theorem writes_any (B b : Nat) (l m : List UInt8) (w : World) (h : Bd B b l w) (hlen : l.length + m.length ≤ 140737488355328) (hBw : B ≤ w.heap.size) :
    Calls Tryd.prog 50 #[.pointer (some ⟨b, 0, none⟩), .string (bs m)] w fun e w' => e = .returned (.tuple #[.int .i64 (m.length : Int), .nilIface]) ∧ Bd B b (l ++ m) w' ∧ Below B w w' ∧ Keeps b w w' := by
  obtain ⟨i0, hi, hz0, hz1, hz2⟩ := info_parts elemU8
  have hm := bs_size m
  have hsc : Lib.strCells (bs m) = Lib.byteCells m := rfl
  have hll : (Lib.byteCells l).length = l.length := Lib.byteCells_length l
  go_enter Tryd.func50, Tryd.ntmps50
  go_wp2_with fail
  refine (cc_any B b _ _ h).mono ?_
  rintro e w1 ⟨rfl, h1, hb1, hk1⟩
  obtain ⟨hB, v, hbk, hown, hne⟩ := h1
  have c0 : w1.cell? ⟨b, 0, none⟩ = some (.pointer (some ⟨b, 0, none⟩)) := by rw [Lib.cell_of_heap hbk]; rfl
  have c1 : w1.cell? ⟨b, 1, none⟩ = some v := by rw [Lib.cell_of_heap hbk]; rfl
  have hbz : B ≤ w1.heap.size := Nat.le_trans hBw hb1.size
  go_wp2_with (at_builtin; go_must (refine Lib.wpList_append_own_string (P := Tryd.prog) _ rfl _ _ 46 9 rfl B 5 i0 Tryd.underlying46 Tryd.underlying9 hi hz0 hz1 hz2 v _ _ rfl hown (bs m) rfl (by unfold maxLen; omega) (by omega) hbz ?_); intro v' w2 hown' hgrow _; obtain ⟨ao, n', cap, rfl⟩ := own_slice hown'; obtain ⟨d0, d1, f1, HF⟩ := put_facts hB hbk hown hne hb1 hbz hk1 hgrow (m := m) (by rw [hm] at hown'; exact hown'); clear hown hown' hgrow hbk hb1 hne)
  go_wp2
  go_ret2
  exact ⟨rfl, .inr HF.out.1, HF.out.2.1, HF.out.2.2⟩
/-- String. -/
theorem bstring_any (B b : Nat) (l : List UInt8) (w : World) (h : Bd B b l w) (hBw : B ≤ w.heap.size) :
    Calls Tryd.prog 17 #[.pointer (some ⟨b, 0, none⟩)] w fun e w' => e = .returned (.string (bs l)) ∧ Below B w w' :=
  Any.Builder_String_any Tryd.lays169 Tryd.Builder_Extra_169 B b l w h hBw
end Go.Proofs.YtdidengokijcjaaDoor.FrW
/-
  label.Get, alluviumref06.Get: THE WALKS.
-/
namespace Go.Proofs.YtdidengokijcjaaDoor.LabW
open Go.RowKit Go.Shelf LabM
def encL (x : Lab) : List Value := [.string x.1, .string x.2]
def okL (x : Lab) : Prop := x.1.size ≤ maxLen ∧ x.2.size ≤ maxLen
theorem lab_cells {w : World} {A : Option Addr} {l : List Lab} (h : Lies w w.heap.size 2 encL A l) {k : Nat} (hk : k < l.length) :
    ∃ b o, A = some ⟨b, o, none⟩ ∧ ∀ W, Below w.heap.size w W → W.cell? ⟨b, o + k * 2, none⟩ = some (.string l[k].1) ∧ W.cell? ⟨b, o + k * 2 + 1, none⟩ = some (.string l[k].2) := by
  obtain ⟨b, o, hA, _, hc⟩ := h.all hk
  exact ⟨b, o, hA, fun W hW => ⟨hc W hW 0 _ rfl, hc W hW 1 _ rfl⟩⟩
end Go.Proofs.YtdidengokijcjaaDoor.LabW
