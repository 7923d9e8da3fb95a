/-
  num.Small, num.Text, num.small: THE WALKS.
  num.Wide, Zig, Zag: THE WALKS.
  THE SHELF LAYINGS OF strings.Builder AT THIS PROGRAM, IN PLAIN WORDS: written by lay-plain.
  THE PLAIN LAW OF LABELS: no program is in sight here. Texts are lists of bytes.
-/
import Derived.Test.YtdidengokijcjaaDoorJ01
import Derived.Test.YtdidengokijcjaaDoorRows
import Derived.Test.YtdidengokijcjaaDoorJ02
import Derived.Handy
import Derived.Deep.QuietTactic
import Derived.BigQuiet
import Derived.Laws.BitsAllLaws
import Derived.Laws.Bits64
import Derived.Lib.Hide
import Derived.Test.YtdidengokijcjaaDoorJ10
import Derived.Laws.Bits64b
import Derived.Shelf.Strings.Builder1
import Derived.Ground.NamesProg
/-
  num.Small, num.Text, num.small: THE WALKS.
-/
namespace Go.Proofs.YtdidengokijcjaaDoor.FrW
set_option linter.unusedVariables false
open Go.RowKit FrM
/-- The first bytes of a row. -/
def HasB (cs : Array Value) (pre : List UInt8) : Prop := cs.size = 10 ∧ ∀ j (h : j < pre.length), cs[j]? = some (.int .u8 ((pre[j]'h).toNat : Int))
theorem HasB.set {cs : Array Value} {pre : List UInt8} (h : HasB cs pre) (hl : pre.length < 10) (b : UInt8) {i : Nat} (hi : pre.length = i) : HasB (cs.setIfInBounds i (.int .u8 (b.toNat : Int))) (pre ++ [b]) := by
  subst hi
  refine ⟨by simp [h.1], fun j hj => ?_⟩
  by_cases e : j = pre.length
  · subst e
    rw [Array.getElem?_setIfInBounds_self_of_lt (by rw [h.1]; omega)]
    simp
  · have hj2 : j < pre.length := by rw [List.length_append, List.length_singleton] at hj; omega
    rw [Array.getElem?_setIfInBounds_ne (by omega), h.2 j hj2, List.getElem_append_left]
theorem or_byte (m : Nat) : bits .or .u8 ((m : Int) % 256) 128 = ((UInt8.ofNat (m % 128 + 128)).toNat : Int) := by
  rw [byte_nat _ (by omega)]
  have h1 : (m : Int) % 256 = ((m % 256 : Nat) : Int) := by omega
  have : ∀ x : Fin 256, bits .or .u8 ((x.val : Nat) : Int) 128 = ((x.val % 128 + 128 : Nat) : Int) := by decide +kernel
  rw [h1, this ⟨m % 256, by omega⟩]
  show ((m % 256 % 128 + 128 : Nat) : Int) = _
  omega
theorem sm_more {f m : Nat} (h : ¬ m < 128) : sm (f + 1) m = UInt8.ofNat (m % 128 + 128) :: sm f (m / 128) := by
  show (if m < 128 then _ else _) = _
  rw [if_neg h]
theorem sm_last {f m : Nat} (h : m < 128) : sm f m = [UInt8.ofNat m] := by
  cases f with
  | zero => rfl
  | succ f => show (if m < 128 then _ else _) = _; rw [if_pos h]
theorem info_ten : (Tryd.prog.info? 101).map (·.size) = some 10 := by kernel_rfl
theorem ten_len : Tryd.prog.arrayLen 101 = 10 := by kernel_rfl
theorem ten_under : Tryd.prog.underlying 101 = some (.array (Tryd.prog.arrayLen 101) (Tryd.prog.elem 101)) := by kernel_rfl
theorem ten_size : Tryd.prog.elem 101 = 5 := by kernel_rfl
theorem slice_ten (g i : Nat) (hi : i < 10) (w : World) : (Instr.sliceAt 101 (.pointer (some ⟨g, 0, none⟩)) none (some (.int .i64 ((i : Int) + 1))) none).run Tryd.prog w = .ok (.slice (some ⟨g, 0, none⟩) (i + 1) 10) w := by
  have e : ((i : Int) + 1).toNat = i + 1 := by omega
  rw [run_sliceAt_array_h w _ _ ten_under .i64 _ (by omega) (by rw [ten_len]; omega), ten_len, ten_size, e]
  simp [slicedAt, go_sem]
set_option maxRecDepth 20000 in
set_option maxHeartbeats 2000000 in
theorem small_any (n : Nat) (w : World) (hn : n < 18446744073709551616) :
    Calls Tryd.prog 55 #[.int .u64 (n : Int)] w fun e w' => e = .returned (.string ⟨(small n).toArray⟩) ∧ Below w.heap.size w w' := by
  have HN := Lib.hid hn
  obtain ⟨S, hS⟩ : ∃ S, small n = S := ⟨_, rfl⟩
  rw [hS]
  have HS := Lib.hid hS
  clear hS
  go_enter Tryd.func55, Tryd.ntmps55
  go_wp2_with fail
  go_loopw [0, 4] (fun v0 v4 wr => ∃ (i m : Nat) (cs : Array Value) (pre : List UInt8), i ≤ 9 ∧ v4 = .int .i64 i ∧ v0 = .int .u64 m ∧ m < 2 * 128 ^ (9 - i) ∧ pre.length = i ∧ S = pre ++ sm (9 - i) m ∧ HasB cs pre ∧ Below w.heap.size w wr ∧ wr.heap[w.heap.size]? = some (.cells cs 101 (0, 0))) (fun v0 _ _ => (intOf v0).toNat)
  case atStart =>
    exact ⟨0, n, _, [], by omega, rfl, rfl, by rw [show 9 - 0 = 9 from rfl, num_two]; exact HN.out, rfl, HS.out.symm, ⟨rfl, fun j h => by simp at h⟩, (Below.refl _ _).alloc (Nat.le_refl _) _, heap_alloc_new w _⟩
  case round =>
    obtain ⟨i, m, cs, pre, hi, rfl, rfl, hm, hpl, hpre, hb, ho, hc⟩ := hrel
    have hcell : wr.cell? ⟨w.heap.size, i, none⟩ = some cs[i]! := by
      rw [cell_of_row wr _ i cs _ _ hc]; have := hb.1; simp [show i < cs.size by omega]
    have hfro : wr.frozen? ⟨w.heap.size, i, none⟩ = false := frozen_of_row wr _ i cs _ hc
    have i0 : (0 : Int) ≤ (i : Int) := by omega
    have i1 : (i : Int) < 10 := by omega
    have HO := Lib.hid (And.intro ho hc)
    have HB := Lib.hid (And.intro hb (And.intro hpl hpre))
    have HM := Lib.hid hm
    clear ho hc hb hpl hpre hm
    by_cases hlt : m < 128
    · obtain ⟨y, hy⟩ : ∃ y, UInt8.ofNat m = y := ⟨_, rfl⟩
      have hyn : y.toNat = m := by rw [← hy, byte_nat _ (by omega)]
      have hS : S = pre ++ [y] := by rw [HB.out.2.2, sm_last hlt, hy]
      have hlen : S.length = i + 1 := by rw [hS, List.length_append, HB.out.2.1]; rfl
      have hconv : (convert 46 9 (.slice (some ⟨w.heap.size, 0, none⟩) (i + 1) 10)).run Tryd.prog (wr.setCell ⟨w.heap.size, i, none⟩ (.int .u8 (m : Int))) = .ok (.string ⟨S.toArray⟩) (wr.setCell ⟨w.heap.size, i, none⟩ (.int .u8 (m : Int))) := by
        rw [← hlen]
        refine run_convert_bytes_back (P := Tryd.prog) _ 46 9 5 ⟨w.heap.size, 0, none⟩ 10 S Tryd.underlying46 Tryd.underlying5 Tryd.underlying9 ?_
        intro j hj
        have ha : (⟨w.heap.size, 0, none⟩ : Addr).add j = ⟨w.heap.size, j, none⟩ := by unfold Addr.add; split <;> simp_all
        have hrow := heap_setCell_same wr w.heap.size i cs _ (.int .u8 (m : Int)) HO.out.2
        rw [← hyn] at hrow
        have h2 := (HB.out.1.set (by rw [HB.out.2.1]; omega) y HB.out.2.1).2 j (by rw [← hS]; exact hj)
        rw [← hyn, ha, cell_of_row _ _ j _ _ _ hrow, h2]
        simp only [hS]
      have HF := Lib.hid (show Below w.heap.size w (wr.setCell ⟨w.heap.size, i, none⟩ (.int .u8 (m : Int))) from HO.out.1.setCell (Nat.le_refl _) _)
      have hsl := fun W => slice_ten w.heap.size i (by omega) W
      clear hy hyn hS hlen HS
      go_wp2
      go_ret
      exact ⟨rfl, HF.out⟩
    · have hi8 : i < 9 := by
        have h := HM.out
        by_cases h9 : i = 9
        · subst h9; have : m < 2 := by simpa using h
          omega
        · omega
      obtain ⟨y, hy⟩ : ∃ y, UInt8.ofNat (m % 128 + 128) = y := ⟨_, rfl⟩
      have hor := or_byte m
      rw [hy] at hor
      have hdiv : (m : Int) / 128 = ((m / 128 : Nat) : Int) := by omega
      have hsm : sm (9 - i) m = y :: sm (9 - (i + 1)) (m / 128) := by
        rw [show 9 - i = (9 - (i + 1)) + 1 by omega, sm_more hlt, hy]
      have hm2 : m / 128 < 2 * 128 ^ (9 - (i + 1)) := by
        have h := HM.out
        rw [show 9 - i = (9 - (i + 1)) + 1 by omega, Nat.pow_succ] at h
        rw [Nat.div_lt_iff_lt_mul (by omega)]; omega
      obtain ⟨m2, hmm⟩ : ∃ m2, m / 128 = m2 := ⟨_, rfl⟩
      have hlt2 : m2 < m := by omega
      rw [hmm] at hdiv hsm hm2
      have HR := Lib.hid (And.intro hsm (And.intro hm2 hlt2))
      clear hy hsm hm2 hmm hlt2
      go_wp2_with fail
      go_roundw
      case rel =>
        refine ⟨i + 1, m2, _, pre ++ [y], by omega, by go_num, rfl, HR.out.2.1, by rw [List.length_append, HB.out.2.1]; rfl, ?_, HB.out.1.set (by rw [HB.out.2.1]; omega) y HB.out.2.1, HO.out.1.setCell (Nat.le_refl _) _, heap_setCell_same wr _ i cs _ _ HO.out.2⟩
        rw [HB.out.2.2, HR.out.1, List.append_assoc]; rfl
      case measure =>
        have := HR.out.2.2
        simp [intOf]; omega
/-- Bytes as a string. -/
def bs (l : List UInt8) : ByteArray := ⟨l.toArray⟩
theorem bs_list (l : List UInt8) : (bs l).data.toList = l := rfl
theorem bs_size (l : List UInt8) : (bs l).size = l.length := by simp [bs, ByteArray.size]
theorem bs_append (a b : List UInt8) : bs a ++ bs b = bs (a ++ b) := by
  apply ByteArray.ext; simp [bs]
theorem bs_of (s : ByteArray) : bs s.data.toList = s := rfl
theorem bs_extract (l : List UInt8) (i j : Nat) : (bs l).extract i j = bs ((l.drop i).take (j - i)) := by
  apply ByteArray.ext
  apply Array.toList_inj.1
  rw [ByteArray.data_extract, Array.toList_extract, List.extract_eq_take_drop]
  rfl
theorem bs_get (l : List UInt8) (i : Nat) (h : i < (bs l).size) : (bs l)[i] = l[i]'(by rw [bs_size] at h; exact h) := rfl
theorem bs_inj {a b : List UInt8} (h : bs a = bs b) : a = b := by
  have := congrArg (fun s : ByteArray => s.data.toList) h
  exact this
set_option maxHeartbeats 400000 in
theorem text_any (l : List UInt8) (w : World) (hl : l.length ≤ 1099511627776) :
    Calls Tryd.prog 60 #[.string (bs l)] w fun e w' => e = .returned (.string (bs (text l))) ∧ Below w.heap.size w w' := by
  have hz := bs_size l
  have hsm := sm_len 9 l.length
  have hz2 : (bs (small l.length)).size ≤ 10 := by rw [bs_size]; exact hsm
  have HT : Hid (bs (small l.length) ++ bs l = bs (text l)) := Lib.hid (bs_append _ _)
  have HS : Hid (∀ W, Calls Tryd.prog 55 #[.int .u64 (l.length : Int)] W fun e w' => e = .returned (.string (bs (small l.length))) ∧ Below W.heap.size W w') := Lib.hid (fun W => small_any l.length W (by omega))
  obtain ⟨S, hS⟩ : ∃ S, bs (small l.length) = S := ⟨_, rfl⟩
  obtain ⟨X, hX⟩ : ∃ X, bs l = X := ⟨_, rfl⟩
  obtain ⟨n, hn⟩ : ∃ n, l.length = n := ⟨_, rfl⟩
  rw [hS, hX] at HT
  rw [hS] at HS hz2
  rw [hn] at HS hz hl
  rw [hX] at hz ⊢
  clear hS hX hsm hn
  go_enter Tryd.func60, Tryd.ntmps60
  go_wp2_with fail
  refine (HS.out _).mono ?_
  rintro e w1 ⟨rfl, hb1⟩
  go_wp2
  go_ret
  exact ⟨by rw [← HT.out]; rfl, hb1⟩
theorem text_le (l : List UInt8) : (text l).length ≤ l.length + 10 := by rw [text_len]; have := sm_len 9 l.length; show (sm 9 l.length).length + _ ≤ _; omega
theorem or_u64 (a c k : Nat) (ha : a < 2 ^ k) (h : a + c * 2 ^ k < 18446744073709551616) : bits .or .u64 (a : Int) ((c * 2 ^ k : Nat) : Int) = ((a + c * 2 ^ k : Nat) : Int) := by
  have e : a ||| c * 2 ^ k = a + c * 2 ^ k := by
    have := Nat.two_pow_add_eq_or_of_lt ha c
    rw [Nat.or_comm, Nat.mul_comm c, Nat.add_comm, this]
  have h1 : (BitVec.ofInt 64 (a : Int)).toNat = a := by
    rw [BitVec.ofInt_natCast, BitVec.toNat_ofNat]; exact Nat.mod_eq_of_lt (by omega)
  have h2 : (BitVec.ofInt 64 ((c * 2 ^ k : Nat) : Int)).toNat = c * 2 ^ k := by
    rw [BitVec.ofInt_natCast, BitVec.toNat_ofNat]; exact Nat.mod_eq_of_lt (by omega)
  show IntKind.u64.wrap ((BitVec.ofInt 64 (a : Int) ||| BitVec.ofInt 64 ((c * 2 ^ k : Nat) : Int)).toNat : Int) = _
  rw [BitVec.toNat_or, h1, h2, e, IntKind.wrap_u64]
  omega
theorem andNot_byte (y : UInt8) : bits .andNot .u8 (y.toNat : Int) 128 = ((y.toNat % 128 : Nat) : Int) := by
  have : ∀ x : Fin 256, bits .andNot .u8 ((x.val : Nat) : Int) 128 = ((x.val % 128 : Nat) : Int) := by decide +kernel
  exact this ⟨y.toNat, y.toNat_lt⟩
def gsV (r : Option (Nat × Nat)) : Value := match r with
  | none => .tuple #[.int .u64 0, .int .i64 (-1)]
  | some (n, k) => .tuple #[.int .u64 (n : Int), .int .i64 (k : Int)]
set_option maxRecDepth 20000 in
set_option maxHeartbeats 2000000 in
theorem nsmall_long (l : List UInt8) (w : World) (hq : 10 < l.length) (hl : l.length ≤ 2199023255552) :
    Calls Tryd.prog 70 #[.string (bs l)] w fun e w' => e = .returned (gsV (gs 0 0 l)) ∧ w = w' := by
  have hz := bs_size l
  have HG : ∀ (i : Nat) (h : i < (bs l).size) (h2 : i < l.length), (bs l)[i]'h = l[i]'h2 := fun _ _ _ => rfl
  obtain ⟨X, hX⟩ : ∃ X, bs l = X := ⟨_, rfl⟩
  rw [hX] at hz HG ⊢
  have HGG := Lib.hid HG
  clear hX HG
  obtain ⟨r, hr⟩ : ∃ r, gs 0 0 l = r := ⟨_, rfl⟩
  rw [hr]
  have HR := Lib.hid hr
  clear hr
  have hq : (10 : Int) < (l.length : Int) := by omega
  go_enter Tryd.func70, Tryd.ntmps70
  go_wp2_with fail
  go_loopw [4, 10] (fun v4 v10 wr => ∃ (i acc : Nat), i ≤ 10 ∧ v10 = .int .i64 i ∧ v4 = .int .u64 acc ∧ acc < 128 ^ i ∧ gs i acc (l.drop i) = r ∧ wr = w) (fun _ v10 _ => 10 - (intOf v10).toNat)
  case atStart => exact ⟨0, 0, by omega, rfl, rfl, by simp, HR.out, rfl⟩
  case round =>
    obtain ⟨i, acc, hi, rfl, rfl, hacc, hgs, rfl⟩ := hrel
    by_cases hlt : i < 10
    · have hil : i < l.length := by omega
      have hix : i < X.size := by omega
      have hg := HGG.out i hix hil
      have hd := List.drop_eq_getElem_cons hil
      obtain ⟨y, hy⟩ : ∃ y, l[i] = y := ⟨_, rfl⟩
      rw [hy] at hg hd
      rw [hd] at hgs
      have hyl := y.toNat_lt
      have han := andNot_byte y
      have HS := Lib.hid hgs
      have HACC := Lib.hid hacc
      clear hgs hd hy hacc
      have i0 : (0 : Int) ≤ (i : Int) := by omega
      have i1 : (i : Int) < (10 : Int) := by omega
      obtain ⟨z, hyz⟩ : ∃ z, y.toNat = z := ⟨_, rfl⟩
      have hgz : X[i].toNat = z := by rw [hg]; exact hyz
      rw [hyz] at han hyl
      have HYZ := Lib.hid hyz
      clear hg hyz
      by_cases hbad : (i = 9 ∧ 1 < z) ∨ (0 < i ∧ z = 0)
      · have hr : r = none := by
          rw [← HS.out]; unfold gs; rw [if_neg (by omega), if_pos (by rw [HYZ.out]; exact hbad)]
        subst hr
        rcases hbad with ⟨rfl, hb⟩ | ⟨h0, rfl⟩
        · go_wp2
          go_ret2
          exact ⟨rfl, rfl⟩
        · by_cases h9 : i = 9
          · subst h9
            go_wp2
            go_ret2
            exact ⟨rfl, rfl⟩
          · have hb9 : ((i : Int) == 9) = false := by simp; omega
            go_wp2
            go_ret2
            exact ⟨rfl, rfl⟩
      · have hgs2 : gs i acc (y :: l.drop (i + 1)) = if z < 128 then some (acc + z * 128 ^ i, i + 1) else gs (i + 1) (acc + (z - 128) * 128 ^ i) (l.drop (i + 1)) := by
          rw [← HYZ.out]; rw [← HYZ.out] at hbad
          conv => lhs; unfold gs
          rw [if_neg (by omega), if_neg hbad]
        have hpow : (128 : Nat) ^ i = 2 ^ (7 * i) := by rw [Nat.pow_mul]
        have hfit : acc + z % 128 * 2 ^ (7 * i) < 18446744073709551616 := by
          have ha := HACC.out
          rw [hpow] at ha
          by_cases h9 : i = 9
          · subst h9
            have : z ≤ 1 := by omega
            have : z % 128 ≤ 1 := by omega
            have e : (2 : Nat) ^ (7 * 9) = 9223372036854775808 := by decide
            rw [e] at ha ⊢
            omega
          · have h1 : acc + z % 128 * 2 ^ (7 * i) < 128 * 2 ^ (7 * i) := by
              have h2 : z % 128 ≤ 127 := by omega
              have h3 := Nat.mul_le_mul_right (2 ^ (7 * i)) h2
              omega
            have h4 : 128 * 2 ^ (7 * i) = 2 ^ (7 * i + 7) := by rw [Nat.pow_add, Nat.mul_comm]
            have h5 : (2 : Nat) ^ (7 * i + 7) ≤ 2 ^ 63 := Nat.pow_le_pow_right (by omega) (by omega)
            have h6 : (2 : Nat) ^ 63 = 9223372036854775808 := by decide
            omega
        have hor := or_u64 acc (z % 128) (7 * i) (by rw [← hpow]; exact HACC.out) hfit
        obtain ⟨sh, hsh⟩ : ∃ sh, z % 128 * 2 ^ (7 * i) = sh := ⟨_, rfl⟩
        rw [hsh] at hor hfit
        have hw : IntKind.u64.wrap (((z % 128 : Nat) : Int) * 2 ^ (7 * (i : Int)).toNat) = (sh : Int) := by
          have e : (7 * (i : Int)).toNat = 7 * i := by omega
          rw [e, IntKind.wrap_u64]
          have : ((z % 128 : Nat) : Int) * 2 ^ (7 * i) = (sh : Int) := by rw [← hsh, Int.natCast_mul, Int.natCast_pow]; rfl
          rw [this]; omega
        have hnx : acc + z % 128 * 2 ^ (7 * i) < 128 ^ (i + 1) := by
          have ha := HACC.out
          have h2 : z % 128 ≤ 127 := by omega
          have h3 := Nat.mul_le_mul_right (128 ^ i) h2
          rw [← hpow, Nat.pow_succ]; omega
        have hone : z < 128 → acc + z * 128 ^ i = acc + z % 128 * 2 ^ (7 * i) := fun h => by rw [hpow, Nat.mod_eq_of_lt h]
        have htwo : ¬ z < 128 → acc + (z - 128) * 128 ^ i = acc + z % 128 * 2 ^ (7 * i) := fun h => by rw [hpow, show z - 128 = z % 128 by omega]
        rw [hsh] at hnx hone htwo
        have HSH := Lib.hid (And.intro hgs2 (And.intro hnx (And.intro hone htwo)))
        obtain ⟨zl, hzl⟩ : ∃ zl, z % 128 = zl := ⟨_, rfl⟩
        rw [hzl] at hw han
        have hzl2 : zl < 128 := by omega
        obtain ⟨ac2, hac⟩ : ∃ ac2, acc + sh = ac2 := ⟨_, rfl⟩
        rw [hac] at HSH hor
        clear hsh hpow hgs2 hzl hnx hone htwo hfit hac
        by_cases hlast : z < 128
        · have hrr : r = some (ac2, i + 1) := by
            rw [← HS.out, HSH.out.1, if_pos hlast, HSH.out.2.2.1 hlast]
          subst hrr
          by_cases h9 : i = 9
          · have hz1 : ¬ 1 < z := fun h => hbad (.inl ⟨h9, h⟩)
            have hz0 : ¬ z = 0 := fun h => hbad (.inr ⟨by omega, h⟩)
            have hb9 : ((i : Int) == 9) = true := by simp; omega
            have hbz : ((z : Int) == 0) = false := by simp; omega
            have hi0 : (0 : Int) < (i : Int) := by omega
            clear hbad h9
            go_wp2
            go_ret2
            exact ⟨rfl, rfl⟩
          · have hb9 : ((i : Int) == 9) = false := by simp; omega
            by_cases h0 : i = 0
            · have hi0 : ¬ (0 : Int) < (i : Int) := by omega
              clear hbad h9 h0
              go_wp2
              go_ret2
              exact ⟨rfl, rfl⟩
            · have hz0 : ¬ z = 0 := fun h => hbad (.inr ⟨by omega, h⟩)
              have hbz : ((z : Int) == 0) = false := by simp; omega
              have hi0 : (0 : Int) < (i : Int) := by omega
              clear hbad h9 h0
              go_wp2
              go_ret2
              exact ⟨rfl, rfl⟩
        · have hnext : gs (i + 1) ac2 (l.drop (i + 1)) = r := by
            rw [← HS.out, HSH.out.1, if_neg hlast, HSH.out.2.2.2 hlast]
          have HNX := Lib.hid (And.intro hnext HSH.out.2.1)
          have hz0 : ((z : Int) == 0) = false := by simp; omega
          have h9 : i ≠ 9 := fun h => hbad (.inl ⟨h, by omega⟩)
          have hb9 : ((i : Int) == 9) = false := by simp; omega
          clear hnext hbad
          go_wp2
          all_goals
            go_roundw
            case rel => exact ⟨i + 1, ac2, by omega, by go_num, rfl, HNX.out.2, HNX.out.1, by first | trivial | rfl⟩
            case measure => simp [intOf]; omega
    · obtain rfl : i = 10 := by omega
      have hr : r = none := by
        rw [← hgs]
        cases l.drop 10 with
        | nil => rfl
        | cons a b => unfold gs; rw [if_pos (by omega)]
      subst hr
      clear hgs hacc
      go_wp2
      go_ret2
      exact ⟨rfl, rfl⟩
set_option maxRecDepth 20000 in
set_option maxHeartbeats 2000000 in
theorem nsmall_short (l : List UInt8) (w : World) (hq : l.length ≤ 10) (hl : l.length ≤ 2199023255552) :
    Calls Tryd.prog 70 #[.string (bs l)] w fun e w' => e = .returned (gsV (gs 0 0 l)) ∧ w = w' := by
  have hz := bs_size l
  have HG : ∀ (i : Nat) (h : i < (bs l).size) (h2 : i < l.length), (bs l)[i]'h = l[i]'h2 := fun _ _ _ => rfl
  obtain ⟨X, hX⟩ : ∃ X, bs l = X := ⟨_, rfl⟩
  rw [hX] at hz HG ⊢
  have HGG := Lib.hid HG
  clear hX HG
  obtain ⟨r, hr⟩ : ∃ r, gs 0 0 l = r := ⟨_, rfl⟩
  rw [hr]
  have HR := Lib.hid hr
  clear hr
  obtain ⟨q, hql⟩ : ∃ q, l.length = q := ⟨_, rfl⟩
  rw [hql] at hz hq hl
  go_enter Tryd.func70, Tryd.ntmps70
  go_wp2_with fail
  go_loopw [4, 10] (fun v4 v10 wr => ∃ (i acc : Nat), i ≤ q ∧ v10 = .int .i64 i ∧ v4 = .int .u64 acc ∧ acc < 128 ^ i ∧ gs i acc (l.drop i) = r ∧ wr = w) (fun _ v10 _ => 10 - (intOf v10).toNat)
  case atStart => exact ⟨0, 0, by omega, rfl, rfl, by simp, HR.out, rfl⟩
  case round =>
    obtain ⟨i, acc, hi, rfl, rfl, hacc, hgs, rfl⟩ := hrel
    by_cases hlt : i < q
    · have hil : i < l.length := by omega
      have hix : i < X.size := by omega
      have hg := HGG.out i hix hil
      have hd := List.drop_eq_getElem_cons hil
      obtain ⟨y, hy⟩ : ∃ y, l[i] = y := ⟨_, rfl⟩
      rw [hy] at hg hd
      rw [hd] at hgs
      have hyl := y.toNat_lt
      have han := andNot_byte y
      have HS := Lib.hid hgs
      have HACC := Lib.hid hacc
      clear hgs hd hy hacc
      have i0 : (0 : Int) ≤ (i : Int) := by omega
      have i1 : (i : Int) < (q : Int) := by omega
      obtain ⟨z, hyz⟩ : ∃ z, y.toNat = z := ⟨_, rfl⟩
      have hgz : X[i].toNat = z := by rw [hg]; exact hyz
      rw [hyz] at han hyl
      have HYZ := Lib.hid hyz
      clear hg hyz
      by_cases hbad : (i = 9 ∧ 1 < z) ∨ (0 < i ∧ z = 0)
      · have hr : r = none := by
          rw [← HS.out]; unfold gs; rw [if_neg (by omega), if_pos (by rw [HYZ.out]; exact hbad)]
        subst hr
        rcases hbad with ⟨rfl, hb⟩ | ⟨h0, rfl⟩
        · go_wp2
          go_ret2
          exact ⟨rfl, rfl⟩
        · by_cases h9 : i = 9
          · subst h9
            go_wp2
            go_ret2
            exact ⟨rfl, rfl⟩
          · have hb9 : ((i : Int) == 9) = false := by simp; omega
            go_wp2
            go_ret2
            exact ⟨rfl, rfl⟩
      · have hgs2 : gs i acc (y :: l.drop (i + 1)) = if z < 128 then some (acc + z * 128 ^ i, i + 1) else gs (i + 1) (acc + (z - 128) * 128 ^ i) (l.drop (i + 1)) := by
          rw [← HYZ.out]; rw [← HYZ.out] at hbad
          conv => lhs; unfold gs
          rw [if_neg (by omega), if_neg hbad]
        have hpow : (128 : Nat) ^ i = 2 ^ (7 * i) := by rw [Nat.pow_mul]
        have hfit : acc + z % 128 * 2 ^ (7 * i) < 18446744073709551616 := by
          have ha := HACC.out
          rw [hpow] at ha
          by_cases h9 : i = 9
          · subst h9
            have : z ≤ 1 := by omega
            have : z % 128 ≤ 1 := by omega
            have e : (2 : Nat) ^ (7 * 9) = 9223372036854775808 := by decide
            rw [e] at ha ⊢
            omega
          · have h1 : acc + z % 128 * 2 ^ (7 * i) < 128 * 2 ^ (7 * i) := by
              have h2 : z % 128 ≤ 127 := by omega
              have h3 := Nat.mul_le_mul_right (2 ^ (7 * i)) h2
              omega
            have h4 : 128 * 2 ^ (7 * i) = 2 ^ (7 * i + 7) := by rw [Nat.pow_add, Nat.mul_comm]
            have h5 : (2 : Nat) ^ (7 * i + 7) ≤ 2 ^ 63 := Nat.pow_le_pow_right (by omega) (by omega)
            have h6 : (2 : Nat) ^ 63 = 9223372036854775808 := by decide
            omega
        have hor := or_u64 acc (z % 128) (7 * i) (by rw [← hpow]; exact HACC.out) hfit
        obtain ⟨sh, hsh⟩ : ∃ sh, z % 128 * 2 ^ (7 * i) = sh := ⟨_, rfl⟩
        rw [hsh] at hor hfit
        have hw : IntKind.u64.wrap (((z % 128 : Nat) : Int) * 2 ^ (7 * (i : Int)).toNat) = (sh : Int) := by
          have e : (7 * (i : Int)).toNat = 7 * i := by omega
          rw [e, IntKind.wrap_u64]
          have : ((z % 128 : Nat) : Int) * 2 ^ (7 * i) = (sh : Int) := by rw [← hsh, Int.natCast_mul, Int.natCast_pow]; rfl
          rw [this]; omega
        have hnx : acc + z % 128 * 2 ^ (7 * i) < 128 ^ (i + 1) := by
          have ha := HACC.out
          have h2 : z % 128 ≤ 127 := by omega
          have h3 := Nat.mul_le_mul_right (128 ^ i) h2
          rw [← hpow, Nat.pow_succ]; omega
        have hone : z < 128 → acc + z * 128 ^ i = acc + z % 128 * 2 ^ (7 * i) := fun h => by rw [hpow, Nat.mod_eq_of_lt h]
        have htwo : ¬ z < 128 → acc + (z - 128) * 128 ^ i = acc + z % 128 * 2 ^ (7 * i) := fun h => by rw [hpow, show z - 128 = z % 128 by omega]
        rw [hsh] at hnx hone htwo
        have HSH := Lib.hid (And.intro hgs2 (And.intro hnx (And.intro hone htwo)))
        obtain ⟨zl, hzl⟩ : ∃ zl, z % 128 = zl := ⟨_, rfl⟩
        rw [hzl] at hw han
        have hzl2 : zl < 128 := by omega
        obtain ⟨ac2, hac⟩ : ∃ ac2, acc + sh = ac2 := ⟨_, rfl⟩
        rw [hac] at HSH hor
        clear hsh hpow hgs2 hzl hnx hone htwo hfit hac
        by_cases hlast : z < 128
        · have hrr : r = some (ac2, i + 1) := by
            rw [← HS.out, HSH.out.1, if_pos hlast, HSH.out.2.2.1 hlast]
          subst hrr
          by_cases h9 : i = 9
          · have hz1 : ¬ 1 < z := fun h => hbad (.inl ⟨h9, h⟩)
            have hz0 : ¬ z = 0 := fun h => hbad (.inr ⟨by omega, h⟩)
            have hb9 : ((i : Int) == 9) = true := by simp; omega
            have hbz : ((z : Int) == 0) = false := by simp; omega
            have hi0 : (0 : Int) < (i : Int) := by omega
            clear hbad h9
            go_wp2
            go_ret2
            exact ⟨rfl, rfl⟩
          · have hb9 : ((i : Int) == 9) = false := by simp; omega
            by_cases h0 : i = 0
            · have hi0 : ¬ (0 : Int) < (i : Int) := by omega
              clear hbad h9 h0
              go_wp2
              go_ret2
              exact ⟨rfl, rfl⟩
            · have hz0 : ¬ z = 0 := fun h => hbad (.inr ⟨by omega, h⟩)
              have hbz : ((z : Int) == 0) = false := by simp; omega
              have hi0 : (0 : Int) < (i : Int) := by omega
              clear hbad h9 h0
              go_wp2
              go_ret2
              exact ⟨rfl, rfl⟩
        · have hnext : gs (i + 1) ac2 (l.drop (i + 1)) = r := by
            rw [← HS.out, HSH.out.1, if_neg hlast, HSH.out.2.2.2 hlast]
          have HNX := Lib.hid (And.intro hnext HSH.out.2.1)
          have hz0 : ((z : Int) == 0) = false := by simp; omega
          have h9 : i ≠ 9 := fun h => hbad (.inl ⟨h, by omega⟩)
          have hb9 : ((i : Int) == 9) = false := by simp; omega
          clear hnext hbad
          go_wp2
          all_goals
            go_roundw
            case rel => exact ⟨i + 1, ac2, by omega, by go_num, rfl, HNX.out.2, HNX.out.1, by first | trivial | rfl⟩
            case measure => simp [intOf]; omega
    · obtain rfl : i = q := by omega
      have hr : r = none := by
        rw [← hgs]
        rw [List.drop_eq_nil_of_le (by omega)]; rfl
      subst hr
      clear hgs hacc
      go_wp2
      go_ret2
      exact ⟨rfl, rfl⟩
theorem nsmall_any (l : List UInt8) (w : World) (hl : l.length ≤ 2199023255552) :
    Calls Tryd.prog 70 #[.string (bs l)] w fun e w' => e = .returned (gsV (gs 0 0 l)) ∧ w = w' := by
  by_cases h : 10 < l.length
  · exact nsmall_long l w h hl
  · exact nsmall_short l w (by omega) hl
end Go.Proofs.YtdidengokijcjaaDoor.FrW
/-
  num.Wide, Zig, Zag: THE WALKS.
-/
namespace Go.Proofs.YtdidengokijcjaaDoor.ChW
set_option linter.unusedVariables false
open Go.RowKit FrM FrW StM ChM
/-- The first bytes of a row of eight. -/
def Has8 (cs : Array Value) (pre : List UInt8) : Prop := cs.size = 8 ∧ ∀ j (h : j < pre.length), cs[j]? = some (.int .u8 ((pre[j]'h).toNat : Int))
theorem Has8.set {cs : Array Value} {pre : List UInt8} (h : Has8 cs pre) (hl : pre.length < 8) (b : UInt8) {i : Nat} (hi : pre.length = i) : Has8 (cs.setIfInBounds i (.int .u8 (b.toNat : Int))) (pre ++ [b]) := by
  subst hi
  refine ⟨by simp [h.1], fun j hj => ?_⟩
  by_cases e : j = pre.length
  · subst e
    rw [Array.getElem?_setIfInBounds_self_of_lt (by rw [h.1]; omega)]
    simp
  · have hj2 : j < pre.length := by rw [List.length_append, List.length_singleton] at hj; omega
    rw [Array.getElem?_setIfInBounds_ne (by omega), h.2 j hj2, List.getElem_append_left]
theorem eight_len : Tryd.prog.arrayLen 98 = 8 := by kernel_rfl
theorem eight_under : Tryd.prog.underlying 98 = some (.array (Tryd.prog.arrayLen 98) (Tryd.prog.elem 98)) := by kernel_rfl
theorem eight_size : Tryd.prog.elem 98 = 5 := by kernel_rfl
set_option maxRecDepth 20000 in
set_option maxHeartbeats 2000000 in
theorem wide_any (n : Nat) (w : World) (hn : n < 18446744073709551616) :
    Calls Tryd.prog 51 #[.int .u64 (n : Int)] w fun e w' => e = .returned (.string (bs (wide n))) ∧ Below w.heap.size w w' := by
  have HN := Lib.hid hn
  obtain ⟨S, hS⟩ : ∃ S, wide n = S := ⟨_, rfl⟩
  rw [hS]
  have HS := Lib.hid hS
  clear hS
  go_enter Tryd.func51, Tryd.ntmps51
  go_wp2_with fail
  go_loopw [4, 5] (fun _ v5 wr => ∃ (i : Nat) (cs : Array Value) (pre : List UInt8), i ≤ 8 ∧ v5 = .int .i64 i ∧ pre.length = i ∧ S = pre ++ wdg (8 - i) (n / 256 ^ i) ∧ Has8 cs pre ∧ Below w.heap.size w wr ∧ wr.heap[w.heap.size]? = some (.cells cs 98 (0, 0))) (fun _ v5 _ => 8 - (intOf v5).toNat)
  case atStart =>
    exact ⟨0, _, [], by omega, rfl, rfl, by rw [Nat.pow_zero, Nat.div_one]; exact HS.out.symm, ⟨rfl, fun j h => by simp at h⟩, (Below.refl _ _).alloc (Nat.le_refl _) _, heap_alloc_new w _⟩
  case round =>
    obtain ⟨i, cs, pre, hi, rfl, hpl, hpre, hb, ho, hc⟩ := hrel
    have HO := Lib.hid (And.intro ho hc)
    have HB := Lib.hid (And.intro hb (And.intro hpl hpre))
    by_cases hlt : i < 8
    · have hcell : wr.cell? ⟨w.heap.size, i, none⟩ = some cs[i]! := by
        rw [cell_of_row wr _ i cs _ _ hc]; have := hb.1; simp [show i < cs.size by omega]
      have hfro : wr.frozen? ⟨w.heap.size, i, none⟩ = false := frozen_of_row wr _ i cs _ hc
      have i0 : (0 : Int) ≤ (i : Int) := by omega
      have i1 : (i : Int) < 8 := by omega
      obtain ⟨m, hm⟩ : ∃ m, n / 256 ^ i = m := ⟨_, rfl⟩
      have hsh : (n : Int) / 2 ^ (8 * (i : Int)).toNat = (m : Int) := by
        rw [show (8 * (i : Int)).toNat = 8 * i by omega, ← hm, Int.natCast_ediv, Int.natCast_pow, show (256 : Nat) = 2 ^ 8 from rfl]
        rw [Int.natCast_pow, ← Int.pow_mul]; rfl
      obtain ⟨y, hy⟩ : ∃ y, UInt8.ofNat (m % 256) = y := ⟨_, rfl⟩
      have hyn : ((y.toNat : Nat) : Int) = (m : Int) % 256 := by rw [← hy, byte_nat _ (by omega)]; omega
      have hwd : wdg (8 - i) (n / 256 ^ i) = y :: wdg (8 - (i + 1)) (n / 256 ^ (i + 1)) := by
        rw [show 8 - i = (8 - (i + 1)) + 1 by omega, hm]
        show UInt8.ofNat (m % 256) :: wdg (8 - (i + 1)) (m / 256) = _
        rw [hy, ← hm, Nat.div_div_eq_div_mul, Nat.pow_succ]
      have HY := Lib.hid (And.intro hyn hwd)
      clear hb hpl hpre ho hc hm hy hyn hwd
      go_wp2_with fail
      go_roundw
      case rel =>
        refine ⟨i + 1, cs.setIfInBounds i (.int .u8 ((m : Int) % 256)), pre ++ [y], by omega, by go_num, by rw [List.length_append, HB.out.2.1]; rfl, ?_, ?_, HO.out.1.setCell (Nat.le_refl _) _, heap_setCell_same wr _ i cs _ _ HO.out.2⟩
        · rw [HB.out.2.2, HY.out.2]; simp
        · rw [← HY.out.1]; exact HB.out.1.set (by rw [HB.out.2.1]; omega) y HB.out.2.1
      case measure => simp [intOf]; omega
    · obtain rfl : i = 8 := by omega
      have hsl : ∀ W, (Instr.sliceAt 98 (.pointer (some ⟨w.heap.size, 0, none⟩)) none none none).run Tryd.prog W = .ok (.slice (some ⟨w.heap.size, 0, none⟩) 8 8) W := fun W => by
        rw [run_sliceAt_array_all W _ _ eight_under, eight_len, eight_size]
        simp [slicedAt, go_sem]
      have hS : S = pre := by rw [hpre]; simp [wdg]
      have hconv : (convert 46 9 (.slice (some ⟨w.heap.size, 0, none⟩) 8 8)).run Tryd.prog wr = .ok (.string (bs S)) wr := by
        have := run_convert_bytes_back (P := Tryd.prog) wr 46 9 5 ⟨w.heap.size, 0, none⟩ 8 S Tryd.underlying46 Tryd.underlying5 Tryd.underlying9 (by
          intro j hj
          have ha : (⟨w.heap.size, 0, none⟩ : Addr).add j = ⟨w.heap.size, j, none⟩ := by unfold Addr.add; split <;> simp_all
          rw [ha, cell_of_row _ _ j _ _ _ hc, hb.2 j (by rw [← hS]; exact hj)]
          simp only [hS])
        rw [show S.length = 8 by rw [hS, hpl]] at this
        exact this
      clear hb hpl hpre ho hc hS
      go_wp2_with fail
      go_ret
      exact ⟨rfl, HO.out.1⟩
theorem xor_all (a : Nat) (h : a < 18446744073709551616) : a ^^^ 18446744073709551615 = 18446744073709551615 - a := by
  have e : BitVec.ofNat 64 a ^^^ BitVec.allOnes 64 = ~~~ (BitVec.ofNat 64 a) := BitVec.xor_allOnes
  have e := congrArg BitVec.toNat e
  rw [BitVec.toNat_xor, BitVec.toNat_not, BitVec.toNat_ofNat, BitVec.toNat_allOnes, Nat.mod_eq_of_lt (by omega)] at e
  exact e
theorem zig_bits (x : Int) (h : okI x) : bits .xor .u64 (IntKind.u64.wrap (IntKind.u64.wrap x * 2)) (IntKind.u64.wrap (x / 9223372036854775808)) = (zig x : Nat) := by
  unfold okI at h
  rw [IntKind.wrap_u64, IntKind.wrap_u64, IntKind.wrap_u64]
  unfold zig
  by_cases h0 : 0 ≤ x
  · rw [if_pos h0, show x / 9223372036854775808 % 18446744073709551616 = ((0 : Nat) : Int) by omega, show x % 18446744073709551616 * 2 % 18446744073709551616 = (((2 * x).toNat : Nat) : Int) by omega, bits_xor_u64_nat _ _ (by omega) (by omega), Nat.xor_zero]
  · rw [if_neg h0, show x / 9223372036854775808 % 18446744073709551616 = ((18446744073709551615 : Nat) : Int) by omega, show x % 18446744073709551616 * 2 % 18446744073709551616 = (((2 * x + 18446744073709551616).toNat : Nat) : Int) by omega, bits_xor_u64_nat _ _ (by omega) (by omega), xor_all _ (by omega)]
    omega
theorem xor_i64 (m : Nat) (h : m < 9223372036854775808) : bits .xor .i64 (m : Int) 0 = (m : Int) ∧ bits .xor .i64 (m : Int) (-1) = -(m : Int) - 1 := by
  have e1 : (BitVec.ofInt 64 (m : Int)).toNat = m := by rw [BitVec.ofInt_natCast, BitVec.toNat_ofNat]; exact Nat.mod_eq_of_lt (by omega)
  constructor
  · show IntKind.i64.wrap (((BitVec.ofInt 64 (m : Int) ^^^ BitVec.ofInt 64 0).toNat : Nat) : Int) = _
    rw [BitVec.toNat_xor, e1, show (BitVec.ofInt 64 0).toNat = 0 from by decide, Nat.xor_zero, IntKind.wrap_i64]
    omega
  · show IntKind.i64.wrap (((BitVec.ofInt 64 (m : Int) ^^^ BitVec.ofInt 64 (-1)).toNat : Nat) : Int) = _
    rw [BitVec.toNat_xor, e1, show (BitVec.ofInt 64 (-1)).toNat = 18446744073709551615 from by decide, xor_all _ (by omega), IntKind.wrap_i64]
    omega
theorem zag_bits (n : Nat) (h : n < 18446744073709551616) : bits .xor .i64 ((n : Int) / 2) (wrap64 (-wrap64 (bits .and .u64 (n : Int) 1))) = zag n := by
  have e1 : bits .and .u64 (n : Int) 1 = ((n % 2 : Nat) : Int) := by
    have := bits_and_u64_nat n 1 h (by omega)
    rw [Nat.and_one_is_mod] at this
    exact this
  rw [e1, show (n : Int) / 2 = ((n / 2 : Nat) : Int) by omega]
  obtain ⟨x1, x2⟩ := xor_i64 (n / 2) (by omega)
  unfold zag
  rcases Nat.mod_two_eq_zero_or_one n with h0 | h0
  · rw [h0, if_pos rfl, show wrap64 (-wrap64 ((0 : Nat) : Int)) = 0 by unfold wrap64; omega, x1]
  · rw [h0, if_neg (by omega), show wrap64 (-wrap64 ((1 : Nat) : Int)) = -1 by unfold wrap64; omega, x2]
theorem ret_u64 {a b : Int} (h : a = b) : Ending.returned (.int .u64 a) = .returned (.int .u64 b) := by rw [h]
theorem ret_i64 {a b : Int} (h : a = b) : Ending.returned (.int .i64 a) = .returned (.int .i64 b) := by rw [h]
theorem zig_any (x : Int) (w : World) (h : okI x) : Calls Tryd.prog 56 #[.int .i64 x] w fun e w' => e = .returned (.int .u64 (zig x : Nat)) ∧ w = w' := by
  have h1 : -9223372036854775808 ≤ x := h.1
  have h2 : x ≤ 9223372036854775807 := h.2
  have HZ := Lib.hid (zig_bits x h)
  clear h
  go_enter Tryd.func56, Tryd.ntmps56
  go_wp2
  go_ret
  exact ⟨ret_u64 HZ.out, rfl⟩
theorem zag_any (n : Nat) (w : World) (h : n < 18446744073709551616) : Calls Tryd.prog 59 #[.int .u64 (n : Int)] w fun e w' => e = .returned (.int .i64 (zag n)) ∧ w = w' := by
  have HZ := Lib.hid (zag_bits n h)
  go_enter Tryd.func59, Tryd.ntmps59
  go_wp2
  go_ret
  exact ⟨ret_i64 HZ.out, rfl⟩
end Go.Proofs.YtdidengokijcjaaDoor.ChW
/-
  THE SHELF LAYINGS OF strings.Builder AT THIS PROGRAM, IN PLAIN WORDS: written by lay-plain.
-/
namespace Go.Proofs
open Go.Shelf
def Tryd.lays169_ren : Go.Shelf.Ren := ⟨fun | 169 => 17 | n => n, fun | 70 => 45 | 9 => 9 | 0 => 0 | 72 => 48 | 37 => 46 | 127 => 64 | 3 => 3 | 5 => 5 | n => n, fun | n => n⟩
theorem Tryd.lays169 : Go.Proofs.Lays.n169 Tryd.prog Tryd.lays169_ren := {
  mixed := by kernel_rfl
  f169 := Tryd.func17.trans (congrArg some (by kernel_rfl))
  t0 := Tryd.underlying0
  a0 := Tryd.isAgg0
  z0 := Tryd.sizeOf0
  v0 := Tryd.zeroValue0
  t3 := Tryd.underlying3
  a3 := Tryd.isAgg3
  z3 := Tryd.sizeOf3
  v3 := Tryd.zeroValue3
  t9 := Tryd.underlying9
  a9 := Tryd.isAgg9
  z9 := Tryd.sizeOf9
  v9 := Tryd.zeroValue9
  t37 := Tryd.underlying46
  a37 := Tryd.isAgg46
  z37 := Tryd.sizeOf46
  v37 := Tryd.zeroValue46
  t70 := Tryd.underlying45
  a70 := Tryd.isAgg45
  z70 := Tryd.sizeOf45
  v70 := Tryd.zeroValue45
  t72 := Tryd.underlying48
  a72 := Tryd.isAgg48
  z72 := Tryd.sizeOf48
  v72 := Tryd.zeroValue48
  t127 := Tryd.underlying64
  a127 := Tryd.isAgg64
  z127 := Tryd.sizeOf64
  v127 := Tryd.zeroValue64 }
theorem Tryd.Builder_Extra_169 : Builder.Extra Tryd.prog Tryd.lays169_ren := {
  sizeBuilder := by kernel_rfl
  liesBuilder := by kernel_rfl
  t5 := Tryd.underlying5
  a5 := Tryd.isAgg5
  z5 := Tryd.sizeOf5
  v5 := Tryd.zeroValue5
  infoByte := by kernel_rfl
  cellsByte := by kernel_rfl
  sizeByte := by kernel_rfl
  neB5 := by decide }
end Go.Proofs
/-
  THE PLAIN LAW OF LABELS: no program is in sight here. Texts are lists of bytes.
-/
namespace Go.Proofs.YtdidengokijcjaaDoor.LabM
abbrev Txt := List UInt8
/-- A label: its name, its value. -/
abbrev Lab := ByteArray × ByteArray
def digitB (c : UInt8) : Bool := decide (48 ≤ c.toNat) && decide (c.toNat ≤ 57)
def lowB (c : UInt8) : Bool := decide (97 ≤ c.toNat) && decide (c.toNat ≤ 122) || decide (c.toNat = 95)
def shownB (c : UInt8) : Bool := decide (32 ≤ c.toNat) && decide (c.toNat ≤ 126)
/-- What a byte may be: 4 in a value, 2 in a name, 1 at a name's beginning. -/
def maskN (c : Nat) : Nat := if 97 ≤ c ∧ c ≤ 122 ∨ c = 95 then 7 else if 48 ≤ c ∧ c ≤ 57 then 6 else if 32 ≤ c ∧ c ≤ 126 then 4 else 0
/-- May each byte of it be so? -/
def allM (s : Txt) (m : Nat) : Bool := s.all (fun c => maskN c.toNat &&& m != 0) && !s.isEmpty && decide (s.length ≤ 48)
def nameB (s : Txt) : Bool := s.all (fun c => lowB c || digitB c) && !s.isEmpty && decide (s.length ≤ 48) && !(s.take 1).all digitB
def valueB (s : Txt) : Bool := s.all shownB && !s.isEmpty && decide (s.length ≤ 48)
theorem mask_one : ∀ c : Fin 256, (maskN c &&& 1 != 0) = (decide (97 ≤ c.val) && decide (c.val ≤ 122) || decide (c.val = 95)) := by decide +kernel
theorem mask_two : ∀ c : Fin 256, (maskN c &&& 2 != 0) = ((decide (97 ≤ c.val) && decide (c.val ≤ 122) || decide (c.val = 95)) || (decide (48 ≤ c.val) && decide (c.val ≤ 57))) := by decide +kernel
theorem mask_four : ∀ c : Fin 256, (maskN c &&& 4 != 0) = (decide (32 ≤ c.val) && decide (c.val ≤ 126)) := by decide +kernel
theorem mask1 (c : UInt8) : (maskN c.toNat &&& 1 != 0) = lowB c := mask_one ⟨c.toNat, c.toNat_lt⟩
theorem mask2 (c : UInt8) : (maskN c.toNat &&& 2 != 0) = (lowB c || digitB c) := mask_two ⟨c.toNat, c.toNat_lt⟩
theorem mask4 (c : UInt8) : (maskN c.toNat &&& 4 != 0) = shownB c := mask_four ⟨c.toNat, c.toNat_lt⟩
theorem lowB_not_digit (c : UInt8) (h : lowB c = true) : digitB c = false := by
  have : ∀ c : Fin 256, (decide (97 ≤ c.val) && decide (c.val ≤ 122) || decide (c.val = 95)) = true → (decide (48 ≤ c.val) && decide (c.val ≤ 57)) = false := by decide +kernel
  exact this ⟨c.toNat, c.toNat_lt⟩ h
/-- A name, as the program looks at it. -/
theorem name_of_masks (s : Txt) : (allM s 2 && allM (s.take 1) 1) = nameB s := by
  unfold allM nameB
  simp only [mask1, mask2]
  cases s with
  | nil => rfl
  | cons c s =>
    simp only [List.take_succ_cons, List.take_zero, List.all_cons, List.all_nil, List.isEmpty_cons, Bool.and_true, Bool.not_false, List.length_cons, List.length_nil]
    simp only [Nat.zero_add, show decide (1 ≤ 48) = true from rfl, Bool.and_true]
    by_cases h : lowB c = true
    · rw [h, lowB_not_digit c h]; simp
    · have h' : lowB c = false := by simpa using h
      rw [h']
      cases digitB c <;> simp
theorem value_of_masks (s : Txt) : allM s 4 = valueB s := by
  unfold allM valueB
  simp only [mask4]
/-- Byte by byte ahead of another one. -/
def ltB : Txt → Txt → Bool
  | [], [] => false
  | [], _ :: _ => true
  | _ :: _, [] => false
  | a :: s, b :: t => if a = b then ltB s t else decide (a.toNat < b.toNat)
theorem ltB_irrefl (a : Txt) : ltB a a = false := by
  induction a with
  | nil => rfl
  | cons x a ih => simp [ltB, ih]
theorem ltB_tri (a b : Txt) : (!ltB a b && !(a == b)) = ltB b a := by
  induction a generalizing b with
  | nil => cases b <;> rfl
  | cons x a ih =>
    cases b with
    | nil => rfl
    | cons y b =>
      unfold ltB
      by_cases h : x = y
      · subst h
        simp only [if_true]
        rw [← ih b]
        simp
      · have h' : ¬ y = x := fun e => h e.symm
        rw [if_neg h, if_neg h']
        have hb : ((x :: a) == (y :: b)) = false := by simp [h]
        rw [hb]
        have hn : x.toNat ≠ y.toNat := fun e => h (UInt8.toNat_inj.1 e)
        rw [Bool.eq_iff_iff]
        simp
        omega
theorem ltB_trans {a b c : Txt} (h1 : ltB a b = true) (h2 : ltB b c = true) : ltB a c = true := by
  induction a generalizing b c with
  | nil =>
    cases b with
    | nil => cases h1
    | cons y b =>
      cases c with
      | nil => cases h2
      | cons z c => rfl
  | cons x a ih =>
    cases b with
    | nil => cases h1
    | cons y b =>
      cases c with
      | nil => cases h2
      | cons z c =>
        unfold ltB at h1 h2 ⊢
        by_cases e1 : x = y
        · subst e1
          rw [if_pos rfl] at h1
          by_cases e2 : x = z
          · subst e2
            rw [if_pos rfl] at h2 ⊢
            exact ih h1 h2
          · rw [if_neg e2] at h2 ⊢
            exact h2
        · rw [if_neg e1] at h1
          by_cases e2 : y = z
          · subst e2
            rw [if_neg e1]; exact h1
          · rw [if_neg e2] at h2
            have a1 := of_decide_eq_true h1
            have a2 := of_decide_eq_true h2
            have e3 : x ≠ z := by intro e; subst e; omega
            rw [if_neg e3]
            exact decide_eq_true (by omega)
/-! How the table comes to be. -/
def st1 (k i : Nat) : Nat := if 32 ≤ i ∧ i < k then 4 else 0
def st2 (k i : Nat) : Nat := if 48 ≤ i ∧ i < k then 6 else st1 127 i
def st3 (k i : Nat) : Nat := if 97 ≤ i ∧ i < k then 7 else st2 58 i
theorem st1_step (k i : Nat) (h : 32 ≤ k) : st1 (k + 1) i = if i = k then 4 else st1 k i := by
  unfold st1; split <;> split <;> (try split) <;> omega
theorem st2_step (k i : Nat) (h : 48 ≤ k) : st2 (k + 1) i = if i = k then 6 else st2 k i := by
  unfold st2; split <;> split <;> (try split) <;> omega
theorem st3_step (k i : Nat) (h : 97 ≤ k) : st3 (k + 1) i = if i = k then 7 else st3 k i := by
  unfold st3; split <;> split <;> (try split) <;> omega
theorem st1_0 (i : Nat) : st1 32 i = 0 := by unfold st1; split <;> omega
theorem st2_0 (i : Nat) : st2 48 i = st1 127 i := by unfold st2; split <;> omega
theorem st3_0 (i : Nat) : st3 97 i = st2 58 i := by unfold st3; split <;> omega
theorem st1_at (k : Nat) : st1 k k = 0 := by unfold st1; split <;> omega
theorem st2_at (k : Nat) (h : 48 ≤ k) (h2 : k < 58) : st2 k k = 4 := by
  unfold st2 st1; split
  · omega
  · split <;> omega
theorem st3_at (k : Nat) (h : 97 ≤ k) (h2 : k < 123) : st3 k k = 4 := by
  unfold st3 st2 st1; split
  · omega
  · split
    · omega
    · split <;> omega
theorem st_fin (i : Nat) : (if i = 95 then 7 else st3 123 i) = maskN i := by
  unfold st3 st2 st1 maskN
  repeat' split
  all_goals omega
/-- May labels be, behind one of that name? -/
def chkL : Txt → List Lab → Bool
  | _, [] => true
  | last, x :: l => ltB last x.1.data.toList && nameB x.1.data.toList && valueB x.2.data.toList && chkL x.1.data.toList l
def checkB (l : List Lab) : Bool := chkL [] l && !l.isEmpty && decide (l.length ≤ 6)
theorem chkL_at (l : List Lab) (last : Txt) (k : Nat) (h : k < l.length) : chkL last (l.drop k) = (ltB last l[k].1.data.toList && nameB l[k].1.data.toList && valueB l[k].2.data.toList && chkL l[k].1.data.toList (l.drop (k + 1))) := by
  rw [List.drop_eq_getElem_cons h, chkL]
theorem chkL_end (l : List Lab) (last : Txt) (k : Nat) (h : l.length ≤ k) : chkL last (l.drop k) = true := by
  rw [List.drop_of_length_le h]; rfl
/-- An error's number: none where it is so. -/
def errN (b : Bool) (n : Int) : Int := if b then 0 else n
theorem errN_true (n : Int) : errN true n = 0 := rfl
theorem errN_false (n : Int) : errN false n = n := rfl
/-- The value of a name. -/
def getL : List Lab → ByteArray → ByteArray
  | [], _ => ByteArray.empty
  | x :: l, nm => if (x.1.toList == nm.toList) = true then x.2 else getL l nm
theorem getL_at (l : List Lab) (nm : ByteArray) (k : Nat) (h : k < l.length) : getL (l.drop k) nm = if (l[k].1.toList == nm.toList) = true then l[k].2 else getL (l.drop (k + 1)) nm := by
  rw [List.drop_eq_getElem_cons h, getL]
theorem getL_end (l : List Lab) (nm : ByteArray) (k : Nat) (h : l.length ≤ k) : getL (l.drop k) nm = ByteArray.empty := by
  rw [List.drop_of_length_le h]; rfl
end Go.Proofs.YtdidengokijcjaaDoor.LabM
