/-
  num.Small, num.Text, num.small: THE WALKS.
-/
import Derived.Test.YtgnifdkoaajboaaFrMath
import Derived.Test.YtgnifdkoaajboaaRows
import Derived.Test.YtgnifdkoaajboaaKit
import Derived.Handy
import Derived.Deep.QuietTactic
import Derived.BigQuiet
import Derived.Laws.BitsAllLaws
import Derived.Laws.Bits64
import Derived.Lib.Hide
namespace Go.Proofs.Ytgnifdkoaajboaa.FrW
set_option linter.unusedVariables false
open Go.RowKit FrM
/-- The first bytes of a row. -/
def HasB (cs : Array Value) (pre : List UInt8) : Prop := cs.size = 10 ∧ ∀ j (h : j < pre.length), cs[j]? = some (.int .u8 ((pre[j]'h).toNat : Int))
theorem HasB.set {cs : Array Value} {pre : List UInt8} (h : HasB cs pre) (hl : pre.length < 10) (b : UInt8) {i : Nat} (hi : pre.length = i) : HasB (cs.setIfInBounds i (.int .u8 (b.toNat : Int))) (pre ++ [b]) := by
  subst hi
  refine ⟨by simp [h.1], fun j hj => ?_⟩
  by_cases e : j = pre.length
  · subst e
    rw [Array.getElem?_setIfInBounds_self_of_lt (by rw [h.1]; omega)]
    simp
  · have hj2 : j < pre.length := by rw [List.length_append, List.length_singleton] at hj; omega
    rw [Array.getElem?_setIfInBounds_ne (by omega), h.2 j hj2, List.getElem_append_left]
theorem or_byte (m : Nat) : bits .or .u8 ((m : Int) % 256) 128 = ((UInt8.ofNat (m % 128 + 128)).toNat : Int) := by
  rw [byte_nat _ (by omega)]
  have h1 : (m : Int) % 256 = ((m % 256 : Nat) : Int) := by omega
  have : ∀ x : Fin 256, bits .or .u8 ((x.val : Nat) : Int) 128 = ((x.val % 128 + 128 : Nat) : Int) := by decide +kernel
  rw [h1, this ⟨m % 256, by omega⟩]
  show ((m % 256 % 128 + 128 : Nat) : Int) = _
  omega
theorem sm_more {f m : Nat} (h : ¬ m < 128) : sm (f + 1) m = UInt8.ofNat (m % 128 + 128) :: sm f (m / 128) := by
  show (if m < 128 then _ else _) = _
  rw [if_neg h]
theorem sm_last {f m : Nat} (h : m < 128) : sm f m = [UInt8.ofNat m] := by
  cases f with
  | zero => rfl
  | succ f => show (if m < 128 then _ else _) = _; rw [if_pos h]
theorem info_ten : (Try.prog.info? 76).map (·.size) = some 10 := by kernel_rfl
theorem ten_len : Try.prog.arrayLen 76 = 10 := by kernel_rfl
theorem ten_under : Try.prog.underlying 76 = some (.array (Try.prog.arrayLen 76) (Try.prog.elem 76)) := by kernel_rfl
theorem ten_size : Try.prog.elem 76 = 5 := by kernel_rfl
theorem slice_ten (g i : Nat) (hi : i < 10) (w : World) : (Instr.sliceAt 76 (.pointer (some ⟨g, 0, none⟩)) none (some (.int .i64 ((i : Int) + 1))) none).run Try.prog w = .ok (.slice (some ⟨g, 0, none⟩) (i + 1) 10) w := by
  have e : ((i : Int) + 1).toNat = i + 1 := by omega
  rw [run_sliceAt_array_h w _ _ ten_under .i64 _ (by omega) (by rw [ten_len]; omega), ten_len, ten_size, e]
  simp [slicedAt, go_sem]
set_option maxRecDepth 20000 in
set_option maxHeartbeats 2000000 in
theorem small_any (n : Nat) (w : World) (hn : n < 18446744073709551616) :
    Calls Try.prog 48 #[.int .u64 (n : Int)] w fun e w' => e = .returned (.string ⟨(small n).toArray⟩) ∧ Below w.heap.size w w' := by
  have HN := Lib.hid hn
  obtain ⟨S, hS⟩ : ∃ S, small n = S := ⟨_, rfl⟩
  rw [hS]
  have HS := Lib.hid hS
  clear hS
  go_enter Try.func48, Try.ntmps48
  go_wp2_with fail
  go_loopw [0, 4] (fun v0 v4 wr => ∃ (i m : Nat) (cs : Array Value) (pre : List UInt8), i ≤ 9 ∧ v4 = .int .i64 i ∧ v0 = .int .u64 m ∧ m < 2 * 128 ^ (9 - i) ∧ pre.length = i ∧ S = pre ++ sm (9 - i) m ∧ HasB cs pre ∧ Below w.heap.size w wr ∧ wr.heap[w.heap.size]? = some (.cells cs 76 (0, 0))) (fun v0 _ _ => (intOf v0).toNat)
  case atStart =>
    exact ⟨0, n, _, [], by omega, rfl, rfl, by rw [show 9 - 0 = 9 from rfl, num_two]; exact HN.out, rfl, HS.out.symm, ⟨rfl, fun j h => by simp at h⟩, (Below.refl _ _).alloc (Nat.le_refl _) _, heap_alloc_new w _⟩
  case round =>
    obtain ⟨i, m, cs, pre, hi, rfl, rfl, hm, hpl, hpre, hb, ho, hc⟩ := hrel
    have hcell : wr.cell? ⟨w.heap.size, i, none⟩ = some cs[i]! := by
      rw [cell_of_row wr _ i cs _ _ hc]; have := hb.1; simp [show i < cs.size by omega]
    have hfro : wr.frozen? ⟨w.heap.size, i, none⟩ = false := frozen_of_row wr _ i cs _ hc
    have i0 : (0 : Int) ≤ (i : Int) := by omega
    have i1 : (i : Int) < 10 := by omega
    have HO := Lib.hid (And.intro ho hc)
    have HB := Lib.hid (And.intro hb (And.intro hpl hpre))
    have HM := Lib.hid hm
    clear ho hc hb hpl hpre hm
    by_cases hlt : m < 128
    · obtain ⟨y, hy⟩ : ∃ y, UInt8.ofNat m = y := ⟨_, rfl⟩
      have hyn : y.toNat = m := by rw [← hy, byte_nat _ (by omega)]
      have hS : S = pre ++ [y] := by rw [HB.out.2.2, sm_last hlt, hy]
      have hlen : S.length = i + 1 := by rw [hS, List.length_append, HB.out.2.1]; rfl
      have hconv : (convert 42 9 (.slice (some ⟨w.heap.size, 0, none⟩) (i + 1) 10)).run Try.prog (wr.setCell ⟨w.heap.size, i, none⟩ (.int .u8 (m : Int))) = .ok (.string ⟨S.toArray⟩) (wr.setCell ⟨w.heap.size, i, none⟩ (.int .u8 (m : Int))) := by
        rw [← hlen]
        refine run_convert_bytes_back (P := Try.prog) _ 42 9 5 ⟨w.heap.size, 0, none⟩ 10 S Try.underlying42 Try.underlying5 Try.underlying9 ?_
        intro j hj
        have ha : (⟨w.heap.size, 0, none⟩ : Addr).add j = ⟨w.heap.size, j, none⟩ := by unfold Addr.add; split <;> simp_all
        have hrow := heap_setCell_same wr w.heap.size i cs _ (.int .u8 (m : Int)) HO.out.2
        rw [← hyn] at hrow
        have h2 := (HB.out.1.set (by rw [HB.out.2.1]; omega) y HB.out.2.1).2 j (by rw [← hS]; exact hj)
        rw [← hyn, ha, cell_of_row _ _ j _ _ _ hrow, h2]
        simp only [hS]
      have HF := Lib.hid (show Below w.heap.size w (wr.setCell ⟨w.heap.size, i, none⟩ (.int .u8 (m : Int))) from HO.out.1.setCell (Nat.le_refl _) _)
      have hsl := fun W => slice_ten w.heap.size i (by omega) W
      clear hy hyn hS hlen HS
      go_wp2
      go_ret
      exact ⟨rfl, HF.out⟩
    · have hi8 : i < 9 := by
        have h := HM.out
        by_cases h9 : i = 9
        · subst h9; have : m < 2 := by simpa using h
          omega
        · omega
      obtain ⟨y, hy⟩ : ∃ y, UInt8.ofNat (m % 128 + 128) = y := ⟨_, rfl⟩
      have hor := or_byte m
      rw [hy] at hor
      have hdiv : (m : Int) / 128 = ((m / 128 : Nat) : Int) := by omega
      have hsm : sm (9 - i) m = y :: sm (9 - (i + 1)) (m / 128) := by
        rw [show 9 - i = (9 - (i + 1)) + 1 by omega, sm_more hlt, hy]
      have hm2 : m / 128 < 2 * 128 ^ (9 - (i + 1)) := by
        have h := HM.out
        rw [show 9 - i = (9 - (i + 1)) + 1 by omega, Nat.pow_succ] at h
        rw [Nat.div_lt_iff_lt_mul (by omega)]; omega
      obtain ⟨m2, hmm⟩ : ∃ m2, m / 128 = m2 := ⟨_, rfl⟩
      have hlt2 : m2 < m := by omega
      rw [hmm] at hdiv hsm hm2
      have HR := Lib.hid (And.intro hsm (And.intro hm2 hlt2))
      clear hy hsm hm2 hmm hlt2
      go_wp2_with fail
      go_roundw
      case rel =>
        refine ⟨i + 1, m2, _, pre ++ [y], by omega, by go_num, rfl, HR.out.2.1, by rw [List.length_append, HB.out.2.1]; rfl, ?_, HB.out.1.set (by rw [HB.out.2.1]; omega) y HB.out.2.1, HO.out.1.setCell (Nat.le_refl _) _, heap_setCell_same wr _ i cs _ _ HO.out.2⟩
        rw [HB.out.2.2, HR.out.1, List.append_assoc]; rfl
      case measure =>
        have := HR.out.2.2
        simp [intOf]; omega
/-- Bytes as a string. -/
def bs (l : List UInt8) : ByteArray := ⟨l.toArray⟩
theorem bs_list (l : List UInt8) : (bs l).data.toList = l := rfl
theorem bs_size (l : List UInt8) : (bs l).size = l.length := by simp [bs, ByteArray.size]
theorem bs_append (a b : List UInt8) : bs a ++ bs b = bs (a ++ b) := by
  apply ByteArray.ext; simp [bs]
theorem bs_of (s : ByteArray) : bs s.data.toList = s := rfl
theorem bs_extract (l : List UInt8) (i j : Nat) : (bs l).extract i j = bs ((l.drop i).take (j - i)) := by
  apply ByteArray.ext
  apply Array.toList_inj.1
  rw [ByteArray.data_extract, Array.toList_extract, List.extract_eq_take_drop]
  rfl
theorem bs_get (l : List UInt8) (i : Nat) (h : i < (bs l).size) : (bs l)[i] = l[i]'(by rw [bs_size] at h; exact h) := rfl
theorem bs_inj {a b : List UInt8} (h : bs a = bs b) : a = b := by
  have := congrArg (fun s : ByteArray => s.data.toList) h
  exact this
set_option maxHeartbeats 400000 in
theorem text_any (l : List UInt8) (w : World) (hl : l.length ≤ 1099511627776) :
    Calls Try.prog 37 #[.string (bs l)] w fun e w' => e = .returned (.string (bs (text l))) ∧ Below w.heap.size w w' := by
  have hz := bs_size l
  have hsm := sm_len 9 l.length
  have hz2 : (bs (small l.length)).size ≤ 10 := by rw [bs_size]; exact hsm
  have HT : Hid (bs (small l.length) ++ bs l = bs (text l)) := Lib.hid (bs_append _ _)
  have HS : Hid (∀ W, Calls Try.prog 48 #[.int .u64 (l.length : Int)] W fun e w' => e = .returned (.string (bs (small l.length))) ∧ Below W.heap.size W w') := Lib.hid (fun W => small_any l.length W (by omega))
  obtain ⟨S, hS⟩ : ∃ S, bs (small l.length) = S := ⟨_, rfl⟩
  obtain ⟨X, hX⟩ : ∃ X, bs l = X := ⟨_, rfl⟩
  obtain ⟨n, hn⟩ : ∃ n, l.length = n := ⟨_, rfl⟩
  rw [hS, hX] at HT
  rw [hS] at HS hz2
  rw [hn] at HS hz hl
  rw [hX] at hz ⊢
  clear hS hX hsm hn
  go_enter Try.func37, Try.ntmps37
  go_wp2_with fail
  refine (HS.out _).mono ?_
  rintro e w1 ⟨rfl, hb1⟩
  go_wp2
  go_ret
  exact ⟨by rw [← HT.out]; rfl, hb1⟩
theorem text_le (l : List UInt8) : (text l).length ≤ l.length + 10 := by rw [text_len]; have := sm_len 9 l.length; show (sm 9 l.length).length + _ ≤ _; omega
theorem or_u64 (a c k : Nat) (ha : a < 2 ^ k) (h : a + c * 2 ^ k < 18446744073709551616) : bits .or .u64 (a : Int) ((c * 2 ^ k : Nat) : Int) = ((a + c * 2 ^ k : Nat) : Int) := by
  have e : a ||| c * 2 ^ k = a + c * 2 ^ k := by
    have := Nat.two_pow_add_eq_or_of_lt ha c
    rw [Nat.or_comm, Nat.mul_comm c, Nat.add_comm, this]
  have h1 : (BitVec.ofInt 64 (a : Int)).toNat = a := by
    rw [BitVec.ofInt_natCast, BitVec.toNat_ofNat]; exact Nat.mod_eq_of_lt (by omega)
  have h2 : (BitVec.ofInt 64 ((c * 2 ^ k : Nat) : Int)).toNat = c * 2 ^ k := by
    rw [BitVec.ofInt_natCast, BitVec.toNat_ofNat]; exact Nat.mod_eq_of_lt (by omega)
  show IntKind.u64.wrap ((BitVec.ofInt 64 (a : Int) ||| BitVec.ofInt 64 ((c * 2 ^ k : Nat) : Int)).toNat : Int) = _
  rw [BitVec.toNat_or, h1, h2, e, IntKind.wrap_u64]
  omega
theorem andNot_byte (y : UInt8) : bits .andNot .u8 (y.toNat : Int) 128 = ((y.toNat % 128 : Nat) : Int) := by
  have : ∀ x : Fin 256, bits .andNot .u8 ((x.val : Nat) : Int) 128 = ((x.val % 128 : Nat) : Int) := by decide +kernel
  exact this ⟨y.toNat, y.toNat_lt⟩
def gsV (r : Option (Nat × Nat)) : Value := match r with
  | none => .tuple #[.int .u64 0, .int .i64 (-1)]
  | some (n, k) => .tuple #[.int .u64 (n : Int), .int .i64 (k : Int)]
set_option maxRecDepth 20000 in
set_option maxHeartbeats 2000000 in
theorem nsmall_long (l : List UInt8) (w : World) (hq : 10 < l.length) (hl : l.length ≤ 2199023255552) :
    Calls Try.prog 52 #[.string (bs l)] w fun e w' => e = .returned (gsV (gs 0 0 l)) ∧ w = w' := by
  have hz := bs_size l
  have HG : ∀ (i : Nat) (h : i < (bs l).size) (h2 : i < l.length), (bs l)[i]'h = l[i]'h2 := fun _ _ _ => rfl
  obtain ⟨X, hX⟩ : ∃ X, bs l = X := ⟨_, rfl⟩
  rw [hX] at hz HG ⊢
  have HGG := Lib.hid HG
  clear hX HG
  obtain ⟨r, hr⟩ : ∃ r, gs 0 0 l = r := ⟨_, rfl⟩
  rw [hr]
  have HR := Lib.hid hr
  clear hr
  have hq : (10 : Int) < (l.length : Int) := by omega
  go_enter Try.func52, Try.ntmps52
  go_wp2_with fail
  go_loopw [4, 10] (fun v4 v10 wr => ∃ (i acc : Nat), i ≤ 10 ∧ v10 = .int .i64 i ∧ v4 = .int .u64 acc ∧ acc < 128 ^ i ∧ gs i acc (l.drop i) = r ∧ wr = w) (fun _ v10 _ => 10 - (intOf v10).toNat)
  case atStart => exact ⟨0, 0, by omega, rfl, rfl, by simp, HR.out, rfl⟩
  case round =>
    obtain ⟨i, acc, hi, rfl, rfl, hacc, hgs, rfl⟩ := hrel
    by_cases hlt : i < 10
    · have hil : i < l.length := by omega
      have hix : i < X.size := by omega
      have hg := HGG.out i hix hil
      have hd := List.drop_eq_getElem_cons hil
      obtain ⟨y, hy⟩ : ∃ y, l[i] = y := ⟨_, rfl⟩
      rw [hy] at hg hd
      rw [hd] at hgs
      have hyl := y.toNat_lt
      have han := andNot_byte y
      have HS := Lib.hid hgs
      have HACC := Lib.hid hacc
      clear hgs hd hy hacc
      have i0 : (0 : Int) ≤ (i : Int) := by omega
      have i1 : (i : Int) < (10 : Int) := by omega
      obtain ⟨z, hyz⟩ : ∃ z, y.toNat = z := ⟨_, rfl⟩
      have hgz : X[i].toNat = z := by rw [hg]; exact hyz
      rw [hyz] at han hyl
      have HYZ := Lib.hid hyz
      clear hg hyz
      by_cases hbad : (i = 9 ∧ 1 < z) ∨ (0 < i ∧ z = 0)
      · have hr : r = none := by
          rw [← HS.out]; unfold gs; rw [if_neg (by omega), if_pos (by rw [HYZ.out]; exact hbad)]
        subst hr
        rcases hbad with ⟨rfl, hb⟩ | ⟨h0, rfl⟩
        · go_wp2
          go_ret2
          exact ⟨rfl, rfl⟩
        · by_cases h9 : i = 9
          · subst h9
            go_wp2
            go_ret2
            exact ⟨rfl, rfl⟩
          · have hb9 : ((i : Int) == 9) = false := by simp; omega
            go_wp2
            go_ret2
            exact ⟨rfl, rfl⟩
      · have hgs2 : gs i acc (y :: l.drop (i + 1)) = if z < 128 then some (acc + z * 128 ^ i, i + 1) else gs (i + 1) (acc + (z - 128) * 128 ^ i) (l.drop (i + 1)) := by
          rw [← HYZ.out]; rw [← HYZ.out] at hbad
          conv => lhs; unfold gs
          rw [if_neg (by omega), if_neg hbad]
        have hpow : (128 : Nat) ^ i = 2 ^ (7 * i) := by rw [Nat.pow_mul]
        have hfit : acc + z % 128 * 2 ^ (7 * i) < 18446744073709551616 := by
          have ha := HACC.out
          rw [hpow] at ha
          by_cases h9 : i = 9
          · subst h9
            have : z ≤ 1 := by omega
            have : z % 128 ≤ 1 := by omega
            have e : (2 : Nat) ^ (7 * 9) = 9223372036854775808 := by decide
            rw [e] at ha ⊢
            omega
          · have h1 : acc + z % 128 * 2 ^ (7 * i) < 128 * 2 ^ (7 * i) := by
              have h2 : z % 128 ≤ 127 := by omega
              have h3 := Nat.mul_le_mul_right (2 ^ (7 * i)) h2
              omega
            have h4 : 128 * 2 ^ (7 * i) = 2 ^ (7 * i + 7) := by rw [Nat.pow_add, Nat.mul_comm]
            have h5 : (2 : Nat) ^ (7 * i + 7) ≤ 2 ^ 63 := Nat.pow_le_pow_right (by omega) (by omega)
            have h6 : (2 : Nat) ^ 63 = 9223372036854775808 := by decide
            omega
        have hor := or_u64 acc (z % 128) (7 * i) (by rw [← hpow]; exact HACC.out) hfit
        obtain ⟨sh, hsh⟩ : ∃ sh, z % 128 * 2 ^ (7 * i) = sh := ⟨_, rfl⟩
        rw [hsh] at hor hfit
        have hw : IntKind.u64.wrap (((z % 128 : Nat) : Int) * 2 ^ (7 * (i : Int)).toNat) = (sh : Int) := by
          have e : (7 * (i : Int)).toNat = 7 * i := by omega
          rw [e, IntKind.wrap_u64]
          have : ((z % 128 : Nat) : Int) * 2 ^ (7 * i) = (sh : Int) := by rw [← hsh, Int.natCast_mul, Int.natCast_pow]; rfl
          rw [this]; omega
        have hnx : acc + z % 128 * 2 ^ (7 * i) < 128 ^ (i + 1) := by
          have ha := HACC.out
          have h2 : z % 128 ≤ 127 := by omega
          have h3 := Nat.mul_le_mul_right (128 ^ i) h2
          rw [← hpow, Nat.pow_succ]; omega
        have hone : z < 128 → acc + z * 128 ^ i = acc + z % 128 * 2 ^ (7 * i) := fun h => by rw [hpow, Nat.mod_eq_of_lt h]
        have htwo : ¬ z < 128 → acc + (z - 128) * 128 ^ i = acc + z % 128 * 2 ^ (7 * i) := fun h => by rw [hpow, show z - 128 = z % 128 by omega]
        rw [hsh] at hnx hone htwo
        have HSH := Lib.hid (And.intro hgs2 (And.intro hnx (And.intro hone htwo)))
        obtain ⟨zl, hzl⟩ : ∃ zl, z % 128 = zl := ⟨_, rfl⟩
        rw [hzl] at hw han
        have hzl2 : zl < 128 := by omega
        obtain ⟨ac2, hac⟩ : ∃ ac2, acc + sh = ac2 := ⟨_, rfl⟩
        rw [hac] at HSH hor
        clear hsh hpow hgs2 hzl hnx hone htwo hfit hac
        by_cases hlast : z < 128
        · have hrr : r = some (ac2, i + 1) := by
            rw [← HS.out, HSH.out.1, if_pos hlast, HSH.out.2.2.1 hlast]
          subst hrr
          by_cases h9 : i = 9
          · have hz1 : ¬ 1 < z := fun h => hbad (.inl ⟨h9, h⟩)
            have hz0 : ¬ z = 0 := fun h => hbad (.inr ⟨by omega, h⟩)
            have hb9 : ((i : Int) == 9) = true := by simp; omega
            have hbz : ((z : Int) == 0) = false := by simp; omega
            have hi0 : (0 : Int) < (i : Int) := by omega
            clear hbad h9
            go_wp2
            go_ret2
            exact ⟨rfl, rfl⟩
          · have hb9 : ((i : Int) == 9) = false := by simp; omega
            by_cases h0 : i = 0
            · have hi0 : ¬ (0 : Int) < (i : Int) := by omega
              clear hbad h9 h0
              go_wp2
              go_ret2
              exact ⟨rfl, rfl⟩
            · have hz0 : ¬ z = 0 := fun h => hbad (.inr ⟨by omega, h⟩)
              have hbz : ((z : Int) == 0) = false := by simp; omega
              have hi0 : (0 : Int) < (i : Int) := by omega
              clear hbad h9 h0
              go_wp2
              go_ret2
              exact ⟨rfl, rfl⟩
        · have hnext : gs (i + 1) ac2 (l.drop (i + 1)) = r := by
            rw [← HS.out, HSH.out.1, if_neg hlast, HSH.out.2.2.2 hlast]
          have HNX := Lib.hid (And.intro hnext HSH.out.2.1)
          have hz0 : ((z : Int) == 0) = false := by simp; omega
          have h9 : i ≠ 9 := fun h => hbad (.inl ⟨h, by omega⟩)
          have hb9 : ((i : Int) == 9) = false := by simp; omega
          clear hnext hbad
          go_wp2
          all_goals
            go_roundw
            case rel => exact ⟨i + 1, ac2, by omega, by go_num, rfl, HNX.out.2, HNX.out.1, by first | trivial | rfl⟩
            case measure => simp [intOf]; omega
    · obtain rfl : i = 10 := by omega
      have hr : r = none := by
        rw [← hgs]
        cases l.drop 10 with
        | nil => rfl
        | cons a b => unfold gs; rw [if_pos (by omega)]
      subst hr
      clear hgs hacc
      go_wp2
      go_ret2
      exact ⟨rfl, rfl⟩
set_option maxRecDepth 20000 in
set_option maxHeartbeats 2000000 in
theorem nsmall_short (l : List UInt8) (w : World) (hq : l.length ≤ 10) (hl : l.length ≤ 2199023255552) :
    Calls Try.prog 52 #[.string (bs l)] w fun e w' => e = .returned (gsV (gs 0 0 l)) ∧ w = w' := by
  have hz := bs_size l
  have HG : ∀ (i : Nat) (h : i < (bs l).size) (h2 : i < l.length), (bs l)[i]'h = l[i]'h2 := fun _ _ _ => rfl
  obtain ⟨X, hX⟩ : ∃ X, bs l = X := ⟨_, rfl⟩
  rw [hX] at hz HG ⊢
  have HGG := Lib.hid HG
  clear hX HG
  obtain ⟨r, hr⟩ : ∃ r, gs 0 0 l = r := ⟨_, rfl⟩
  rw [hr]
  have HR := Lib.hid hr
  clear hr
  obtain ⟨q, hql⟩ : ∃ q, l.length = q := ⟨_, rfl⟩
  rw [hql] at hz hq hl
  go_enter Try.func52, Try.ntmps52
  go_wp2_with fail
  go_loopw [4, 10] (fun v4 v10 wr => ∃ (i acc : Nat), i ≤ q ∧ v10 = .int .i64 i ∧ v4 = .int .u64 acc ∧ acc < 128 ^ i ∧ gs i acc (l.drop i) = r ∧ wr = w) (fun _ v10 _ => 10 - (intOf v10).toNat)
  case atStart => exact ⟨0, 0, by omega, rfl, rfl, by simp, HR.out, rfl⟩
  case round =>
    obtain ⟨i, acc, hi, rfl, rfl, hacc, hgs, rfl⟩ := hrel
    by_cases hlt : i < q
    · have hil : i < l.length := by omega
      have hix : i < X.size := by omega
      have hg := HGG.out i hix hil
      have hd := List.drop_eq_getElem_cons hil
      obtain ⟨y, hy⟩ : ∃ y, l[i] = y := ⟨_, rfl⟩
      rw [hy] at hg hd
      rw [hd] at hgs
      have hyl := y.toNat_lt
      have han := andNot_byte y
      have HS := Lib.hid hgs
      have HACC := Lib.hid hacc
      clear hgs hd hy hacc
      have i0 : (0 : Int) ≤ (i : Int) := by omega
      have i1 : (i : Int) < (q : Int) := by omega
      obtain ⟨z, hyz⟩ : ∃ z, y.toNat = z := ⟨_, rfl⟩
      have hgz : X[i].toNat = z := by rw [hg]; exact hyz
      rw [hyz] at han hyl
      have HYZ := Lib.hid hyz
      clear hg hyz
      by_cases hbad : (i = 9 ∧ 1 < z) ∨ (0 < i ∧ z = 0)
      · have hr : r = none := by
          rw [← HS.out]; unfold gs; rw [if_neg (by omega), if_pos (by rw [HYZ.out]; exact hbad)]
        subst hr
        rcases hbad with ⟨rfl, hb⟩ | ⟨h0, rfl⟩
        · go_wp2
          go_ret2
          exact ⟨rfl, rfl⟩
        · by_cases h9 : i = 9
          · subst h9
            go_wp2
            go_ret2
            exact ⟨rfl, rfl⟩
          · have hb9 : ((i : Int) == 9) = false := by simp; omega
            go_wp2
            go_ret2
            exact ⟨rfl, rfl⟩
      · have hgs2 : gs i acc (y :: l.drop (i + 1)) = if z < 128 then some (acc + z * 128 ^ i, i + 1) else gs (i + 1) (acc + (z - 128) * 128 ^ i) (l.drop (i + 1)) := by
          rw [← HYZ.out]; rw [← HYZ.out] at hbad
          conv => lhs; unfold gs
          rw [if_neg (by omega), if_neg hbad]
        have hpow : (128 : Nat) ^ i = 2 ^ (7 * i) := by rw [Nat.pow_mul]
        have hfit : acc + z % 128 * 2 ^ (7 * i) < 18446744073709551616 := by
          have ha := HACC.out
          rw [hpow] at ha
          by_cases h9 : i = 9
          · subst h9
            have : z ≤ 1 := by omega
            have : z % 128 ≤ 1 := by omega
            have e : (2 : Nat) ^ (7 * 9) = 9223372036854775808 := by decide
            rw [e] at ha ⊢
            omega
          · have h1 : acc + z % 128 * 2 ^ (7 * i) < 128 * 2 ^ (7 * i) := by
              have h2 : z % 128 ≤ 127 := by omega
              have h3 := Nat.mul_le_mul_right (2 ^ (7 * i)) h2
              omega
            have h4 : 128 * 2 ^ (7 * i) = 2 ^ (7 * i + 7) := by rw [Nat.pow_add, Nat.mul_comm]
            have h5 : (2 : Nat) ^ (7 * i + 7) ≤ 2 ^ 63 := Nat.pow_le_pow_right (by omega) (by omega)
            have h6 : (2 : Nat) ^ 63 = 9223372036854775808 := by decide
            omega
        have hor := or_u64 acc (z % 128) (7 * i) (by rw [← hpow]; exact HACC.out) hfit
        obtain ⟨sh, hsh⟩ : ∃ sh, z % 128 * 2 ^ (7 * i) = sh := ⟨_, rfl⟩
        rw [hsh] at hor hfit
        have hw : IntKind.u64.wrap (((z % 128 : Nat) : Int) * 2 ^ (7 * (i : Int)).toNat) = (sh : Int) := by
          have e : (7 * (i : Int)).toNat = 7 * i := by omega
          rw [e, IntKind.wrap_u64]
          have : ((z % 128 : Nat) : Int) * 2 ^ (7 * i) = (sh : Int) := by rw [← hsh, Int.natCast_mul, Int.natCast_pow]; rfl
          rw [this]; omega
        have hnx : acc + z % 128 * 2 ^ (7 * i) < 128 ^ (i + 1) := by
          have ha := HACC.out
          have h2 : z % 128 ≤ 127 := by omega
          have h3 := Nat.mul_le_mul_right (128 ^ i) h2
          rw [← hpow, Nat.pow_succ]; omega
        have hone : z < 128 → acc + z * 128 ^ i = acc + z % 128 * 2 ^ (7 * i) := fun h => by rw [hpow, Nat.mod_eq_of_lt h]
        have htwo : ¬ z < 128 → acc + (z - 128) * 128 ^ i = acc + z % 128 * 2 ^ (7 * i) := fun h => by rw [hpow, show z - 128 = z % 128 by omega]
        rw [hsh] at hnx hone htwo
        have HSH := Lib.hid (And.intro hgs2 (And.intro hnx (And.intro hone htwo)))
        obtain ⟨zl, hzl⟩ : ∃ zl, z % 128 = zl := ⟨_, rfl⟩
        rw [hzl] at hw han
        have hzl2 : zl < 128 := by omega
        obtain ⟨ac2, hac⟩ : ∃ ac2, acc + sh = ac2 := ⟨_, rfl⟩
        rw [hac] at HSH hor
        clear hsh hpow hgs2 hzl hnx hone htwo hfit hac
        by_cases hlast : z < 128
        · have hrr : r = some (ac2, i + 1) := by
            rw [← HS.out, HSH.out.1, if_pos hlast, HSH.out.2.2.1 hlast]
          subst hrr
          by_cases h9 : i = 9
          · have hz1 : ¬ 1 < z := fun h => hbad (.inl ⟨h9, h⟩)
            have hz0 : ¬ z = 0 := fun h => hbad (.inr ⟨by omega, h⟩)
            have hb9 : ((i : Int) == 9) = true := by simp; omega
            have hbz : ((z : Int) == 0) = false := by simp; omega
            have hi0 : (0 : Int) < (i : Int) := by omega
            clear hbad h9
            go_wp2
            go_ret2
            exact ⟨rfl, rfl⟩
          · have hb9 : ((i : Int) == 9) = false := by simp; omega
            by_cases h0 : i = 0
            · have hi0 : ¬ (0 : Int) < (i : Int) := by omega
              clear hbad h9 h0
              go_wp2
              go_ret2
              exact ⟨rfl, rfl⟩
            · have hz0 : ¬ z = 0 := fun h => hbad (.inr ⟨by omega, h⟩)
              have hbz : ((z : Int) == 0) = false := by simp; omega
              have hi0 : (0 : Int) < (i : Int) := by omega
              clear hbad h9 h0
              go_wp2
              go_ret2
              exact ⟨rfl, rfl⟩
        · have hnext : gs (i + 1) ac2 (l.drop (i + 1)) = r := by
            rw [← HS.out, HSH.out.1, if_neg hlast, HSH.out.2.2.2 hlast]
          have HNX := Lib.hid (And.intro hnext HSH.out.2.1)
          have hz0 : ((z : Int) == 0) = false := by simp; omega
          have h9 : i ≠ 9 := fun h => hbad (.inl ⟨h, by omega⟩)
          have hb9 : ((i : Int) == 9) = false := by simp; omega
          clear hnext hbad
          go_wp2
          all_goals
            go_roundw
            case rel => exact ⟨i + 1, ac2, by omega, by go_num, rfl, HNX.out.2, HNX.out.1, by first | trivial | rfl⟩
            case measure => simp [intOf]; omega
    · obtain rfl : i = q := by omega
      have hr : r = none := by
        rw [← hgs]
        rw [List.drop_eq_nil_of_le (by omega)]; rfl
      subst hr
      clear hgs hacc
      go_wp2
      go_ret2
      exact ⟨rfl, rfl⟩
theorem nsmall_any (l : List UInt8) (w : World) (hl : l.length ≤ 2199023255552) :
    Calls Try.prog 52 #[.string (bs l)] w fun e w' => e = .returned (gsV (gs 0 0 l)) ∧ w = w' := by
  by_cases h : 10 < l.length
  · exact nsmall_long l w h hl
  · exact nsmall_short l w (by omega) hl
end Go.Proofs.Ytgnifdkoaajboaa.FrW
