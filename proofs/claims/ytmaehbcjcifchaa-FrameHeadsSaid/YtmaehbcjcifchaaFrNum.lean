/-
  num.Text, num.small; frame.checked, frame.Put, frame.unended: THE WALKS.
-/
import Derived.Test.YtmaehbcjcifchaaFrWalk
import Derived.Laws.Bits64
import Derived.Lib.Hide
namespace Go.Proofs.Ytmaehbcjcifchaa.FrW
set_option linter.unusedVariables false
open Go.RowKit CrcM CrcW FrM
/-- Bytes as a string. -/
def bs (l : List UInt8) : ByteArray := ⟨l.toArray⟩
theorem bs_list (l : List UInt8) : (bs l).data.toList = l := rfl
theorem bs_size (l : List UInt8) : (bs l).size = l.length := by simp [bs, ByteArray.size]
theorem bs_append (a b : List UInt8) : bs a ++ bs b = bs (a ++ b) := by
  apply ByteArray.ext; simp [bs]
theorem bs_of (s : ByteArray) : bs s.data.toList = s := rfl
theorem bs_extract (l : List UInt8) (i j : Nat) : (bs l).extract i j = bs ((l.drop i).take (j - i)) := by
  apply ByteArray.ext
  apply Array.toList_inj.1
  rw [ByteArray.data_extract, Array.toList_extract, List.extract_eq_take_drop]
  rfl
theorem bs_get (l : List UInt8) (i : Nat) (h : i < (bs l).size) : (bs l)[i] = l[i]'(by rw [bs_size] at h; exact h) := rfl
theorem bs_inj {a b : List UInt8} (h : bs a = bs b) : a = b := by
  have := congrArg (fun s : ByteArray => s.data.toList) h
  exact this
set_option maxHeartbeats 400000 in
theorem text_any (l : List UInt8) (w : World) (hl : l.length ≤ 1099511627776) :
    Calls Try.prog 24 #[.string (bs l)] w fun e w' => e = .returned (.string (bs (text l))) ∧ Below w.heap.size w w' := by
  have hz := bs_size l
  have hsm := sm_len 9 l.length
  have hz2 : (bs (small l.length)).size ≤ 10 := by rw [bs_size]; exact hsm
  have HT : Hid (bs (small l.length) ++ bs l = bs (text l)) := Lib.hid (bs_append _ _)
  have HS : Hid (∀ W, Calls Try.prog 32 #[.int .u64 (l.length : Int)] W fun e w' => e = .returned (.string (bs (small l.length))) ∧ Below W.heap.size W w') := Lib.hid (fun W => small_any l.length W (by omega))
  obtain ⟨S, hS⟩ : ∃ S, bs (small l.length) = S := ⟨_, rfl⟩
  obtain ⟨X, hX⟩ : ∃ X, bs l = X := ⟨_, rfl⟩
  obtain ⟨n, hn⟩ : ∃ n, l.length = n := ⟨_, rfl⟩
  rw [hS, hX] at HT
  rw [hS] at HS hz2
  rw [hn] at HS hz hl
  rw [hX] at hz ⊢
  clear hS hX hsm hn
  go_enter Try.func24, Try.ntmps24
  go_wp2_with fail
  refine (HS.out _).mono ?_
  rintro e w1 ⟨rfl, hb1⟩
  go_wp2
  go_ret
  exact ⟨by rw [← HT.out]; rfl, hb1⟩
set_option maxHeartbeats 400000 in
theorem checked_any (l : List UInt8) (w : World) (hl : l.length ≤ 2199023255552) :
    Calls Try.prog 20 #[.string (bs l)] w fun e w' => e = .returned (.string (bs (l ++ ctail l))) ∧ Below w.heap.size w w' := by
  have hz := bs_size l
  have hz2 : (bs (ctail l)).size = 4 := by rw [bs_size, ctail_length]
  have HT : Hid (bs l ++ bs (ctail l) = bs (l ++ ctail l)) := Lib.hid (bs_append _ _)
  have HS : Hid (∀ W, Calls Try.prog 26 #[.string (bs l)] W fun e w' => e = .returned (.string (bs (ctail l))) ∧ Below W.heap.size W w') := Lib.hid (fun W => tail_any (bs l) W (by unfold maxLen; omega))
  obtain ⟨S, hS⟩ : ∃ S, bs (ctail l) = S := ⟨_, rfl⟩
  obtain ⟨X, hX⟩ : ∃ X, bs l = X := ⟨_, rfl⟩
  rw [hS, hX] at HT HS
  rw [hS] at hz2
  rw [hX] at hz ⊢
  clear hS hX
  go_enter Try.func20, Try.ntmps20
  go_wp2_with fail
  refine (HS.out _).mono ?_
  rintro e w1 ⟨rfl, hb1⟩
  go_wp2
  go_ret
  exact ⟨by rw [← HT.out]; rfl, hb1⟩
theorem text_le (l : List UInt8) : (text l).length ≤ l.length + 10 := by rw [text_len]; have := sm_len 9 l.length; show (sm 9 l.length).length + _ ≤ _; omega
set_option maxHeartbeats 400000 in
theorem put_any (l : List UInt8) (w : World) (hl : l.length ≤ 1099511627776) :
    Calls Try.prog 15 #[.string (bs l)] w fun e w' => e = .returned (.string (bs (frm l))) ∧ Below w.heap.size w w' := by
  have HT := Lib.hid (fun W => text_any l W hl)
  have HC := Lib.hid (fun W => checked_any (text l) W (by have := text_le l; omega))
  go_enter Try.func15, Try.ntmps15
  go_wp2_with fail
  refine (HT.out _).mono ?_
  rintro e w1 ⟨rfl, hb1⟩
  go_wp2_with fail
  refine (HC.out _).mono ?_
  rintro e w2 ⟨rfl, hb2⟩
  go_wp2
  go_ret
  exact ⟨rfl, later hb1 hb2⟩
/-! The number that bytes begin with. -/
theorem or_u64 (a c k : Nat) (ha : a < 2 ^ k) (h : a + c * 2 ^ k < 18446744073709551616) : bits .or .u64 (a : Int) ((c * 2 ^ k : Nat) : Int) = ((a + c * 2 ^ k : Nat) : Int) := by
  have e : a ||| c * 2 ^ k = a + c * 2 ^ k := by
    have := Nat.two_pow_add_eq_or_of_lt ha c
    rw [Nat.or_comm, Nat.mul_comm c, Nat.add_comm, this]
  have h1 : (BitVec.ofInt 64 (a : Int)).toNat = a := by
    rw [BitVec.ofInt_natCast, BitVec.toNat_ofNat]; exact Nat.mod_eq_of_lt (by omega)
  have h2 : (BitVec.ofInt 64 ((c * 2 ^ k : Nat) : Int)).toNat = c * 2 ^ k := by
    rw [BitVec.ofInt_natCast, BitVec.toNat_ofNat]; exact Nat.mod_eq_of_lt (by omega)
  show IntKind.u64.wrap ((BitVec.ofInt 64 (a : Int) ||| BitVec.ofInt 64 ((c * 2 ^ k : Nat) : Int)).toNat : Int) = _
  rw [BitVec.toNat_or, h1, h2, e, IntKind.wrap_u64]
  omega
theorem andNot_byte (y : UInt8) : bits .andNot .u8 (y.toNat : Int) 128 = ((y.toNat % 128 : Nat) : Int) := by
  have : ∀ x : Fin 256, bits .andNot .u8 ((x.val : Nat) : Int) 128 = ((x.val % 128 : Nat) : Int) := by decide +kernel
  exact this ⟨y.toNat, y.toNat_lt⟩
def gsV (r : Option (Nat × Nat)) : Value := match r with
  | none => .tuple #[.int .u64 0, .int .i64 (-1)]
  | some (n, k) => .tuple #[.int .u64 (n : Int), .int .i64 (k : Int)]
set_option maxRecDepth 20000 in
set_option maxHeartbeats 2000000 in
theorem nsmall_long (l : List UInt8) (w : World) (hq : 10 < l.length) (hl : l.length ≤ 2199023255552) :
    Calls Try.prog 29 #[.string (bs l)] w fun e w' => e = .returned (gsV (gs 0 0 l)) ∧ w = w' := by
  have hz := bs_size l
  have HG : ∀ (i : Nat) (h : i < (bs l).size) (h2 : i < l.length), (bs l)[i]'h = l[i]'h2 := fun _ _ _ => rfl
  obtain ⟨X, hX⟩ : ∃ X, bs l = X := ⟨_, rfl⟩
  rw [hX] at hz HG ⊢
  have HGG := Lib.hid HG
  clear hX HG
  obtain ⟨r, hr⟩ : ∃ r, gs 0 0 l = r := ⟨_, rfl⟩
  rw [hr]
  have HR := Lib.hid hr
  clear hr
  have hq : (10 : Int) < (l.length : Int) := by omega
  go_enter Try.func29, Try.ntmps29
  go_wp2_with fail
  go_loopw [4, 10] (fun v4 v10 wr => ∃ (i acc : Nat), i ≤ 10 ∧ v10 = .int .i64 i ∧ v4 = .int .u64 acc ∧ acc < 128 ^ i ∧ gs i acc (l.drop i) = r ∧ wr = w) (fun _ v10 _ => 10 - (intOf v10).toNat)
  case atStart => exact ⟨0, 0, by omega, rfl, rfl, by simp, HR.out, rfl⟩
  case round =>
    obtain ⟨i, acc, hi, rfl, rfl, hacc, hgs, rfl⟩ := hrel
    by_cases hlt : i < 10
    · have hil : i < l.length := by omega
      have hix : i < X.size := by omega
      have hg := HGG.out i hix hil
      have hd := List.drop_eq_getElem_cons hil
      obtain ⟨y, hy⟩ : ∃ y, l[i] = y := ⟨_, rfl⟩
      rw [hy] at hg hd
      rw [hd] at hgs
      have hyl := y.toNat_lt
      have han := andNot_byte y
      have HS := Lib.hid hgs
      have HACC := Lib.hid hacc
      clear hgs hd hy hacc
      have i0 : (0 : Int) ≤ (i : Int) := by omega
      have i1 : (i : Int) < (10 : Int) := by omega
      obtain ⟨z, hyz⟩ : ∃ z, y.toNat = z := ⟨_, rfl⟩
      have hgz : X[i].toNat = z := by rw [hg]; exact hyz
      rw [hyz] at han hyl
      have HYZ := Lib.hid hyz
      clear hg hyz
      by_cases hbad : (i = 9 ∧ 1 < z) ∨ (0 < i ∧ z = 0)
      · have hr : r = none := by
          rw [← HS.out]; unfold gs; rw [if_neg (by omega), if_pos (by rw [HYZ.out]; exact hbad)]
        subst hr
        rcases hbad with ⟨rfl, hb⟩ | ⟨h0, rfl⟩
        · go_wp2
          go_ret2
          exact ⟨rfl, rfl⟩
        · by_cases h9 : i = 9
          · subst h9
            go_wp2
            go_ret2
            exact ⟨rfl, rfl⟩
          · have hb9 : ((i : Int) == 9) = false := by simp; omega
            go_wp2
            go_ret2
            exact ⟨rfl, rfl⟩
      · have hgs2 : gs i acc (y :: l.drop (i + 1)) = if z < 128 then some (acc + z * 128 ^ i, i + 1) else gs (i + 1) (acc + (z - 128) * 128 ^ i) (l.drop (i + 1)) := by
          rw [← HYZ.out]; rw [← HYZ.out] at hbad
          conv => lhs; unfold gs
          rw [if_neg (by omega), if_neg hbad]
        have hpow : (128 : Nat) ^ i = 2 ^ (7 * i) := by rw [Nat.pow_mul]
        have hfit : acc + z % 128 * 2 ^ (7 * i) < 18446744073709551616 := by
          have ha := HACC.out
          rw [hpow] at ha
          by_cases h9 : i = 9
          · subst h9
            have : z ≤ 1 := by omega
            have : z % 128 ≤ 1 := by omega
            have e : (2 : Nat) ^ (7 * 9) = 9223372036854775808 := by decide
            rw [e] at ha ⊢
            omega
          · have h1 : acc + z % 128 * 2 ^ (7 * i) < 128 * 2 ^ (7 * i) := by
              have h2 : z % 128 ≤ 127 := by omega
              have h3 := Nat.mul_le_mul_right (2 ^ (7 * i)) h2
              omega
            have h4 : 128 * 2 ^ (7 * i) = 2 ^ (7 * i + 7) := by rw [Nat.pow_add, Nat.mul_comm]
            have h5 : (2 : Nat) ^ (7 * i + 7) ≤ 2 ^ 63 := Nat.pow_le_pow_right (by omega) (by omega)
            have h6 : (2 : Nat) ^ 63 = 9223372036854775808 := by decide
            omega
        have hor := or_u64 acc (z % 128) (7 * i) (by rw [← hpow]; exact HACC.out) hfit
        obtain ⟨sh, hsh⟩ : ∃ sh, z % 128 * 2 ^ (7 * i) = sh := ⟨_, rfl⟩
        rw [hsh] at hor hfit
        have hw : IntKind.u64.wrap (((z % 128 : Nat) : Int) * 2 ^ (7 * (i : Int)).toNat) = (sh : Int) := by
          have e : (7 * (i : Int)).toNat = 7 * i := by omega
          rw [e, IntKind.wrap_u64]
          have : ((z % 128 : Nat) : Int) * 2 ^ (7 * i) = (sh : Int) := by rw [← hsh, Int.natCast_mul, Int.natCast_pow]; rfl
          rw [this]; omega
        have hnx : acc + z % 128 * 2 ^ (7 * i) < 128 ^ (i + 1) := by
          have ha := HACC.out
          have h2 : z % 128 ≤ 127 := by omega
          have h3 := Nat.mul_le_mul_right (128 ^ i) h2
          rw [← hpow, Nat.pow_succ]; omega
        have hone : z < 128 → acc + z * 128 ^ i = acc + z % 128 * 2 ^ (7 * i) := fun h => by rw [hpow, Nat.mod_eq_of_lt h]
        have htwo : ¬ z < 128 → acc + (z - 128) * 128 ^ i = acc + z % 128 * 2 ^ (7 * i) := fun h => by rw [hpow, show z - 128 = z % 128 by omega]
        rw [hsh] at hnx hone htwo
        have HSH := Lib.hid (And.intro hgs2 (And.intro hnx (And.intro hone htwo)))
        obtain ⟨zl, hzl⟩ : ∃ zl, z % 128 = zl := ⟨_, rfl⟩
        rw [hzl] at hw han
        have hzl2 : zl < 128 := by omega
        obtain ⟨ac2, hac⟩ : ∃ ac2, acc + sh = ac2 := ⟨_, rfl⟩
        rw [hac] at HSH hor
        clear hsh hpow hgs2 hzl hnx hone htwo hfit hac
        by_cases hlast : z < 128
        · have hrr : r = some (ac2, i + 1) := by
            rw [← HS.out, HSH.out.1, if_pos hlast, HSH.out.2.2.1 hlast]
          subst hrr
          by_cases h9 : i = 9
          · have hz1 : ¬ 1 < z := fun h => hbad (.inl ⟨h9, h⟩)
            have hz0 : ¬ z = 0 := fun h => hbad (.inr ⟨by omega, h⟩)
            have hb9 : ((i : Int) == 9) = true := by simp; omega
            have hbz : ((z : Int) == 0) = false := by simp; omega
            have hi0 : (0 : Int) < (i : Int) := by omega
            clear hbad h9
            go_wp2
            go_ret2
            exact ⟨rfl, rfl⟩
          · have hb9 : ((i : Int) == 9) = false := by simp; omega
            by_cases h0 : i = 0
            · have hi0 : ¬ (0 : Int) < (i : Int) := by omega
              clear hbad h9 h0
              go_wp2
              go_ret2
              exact ⟨rfl, rfl⟩
            · have hz0 : ¬ z = 0 := fun h => hbad (.inr ⟨by omega, h⟩)
              have hbz : ((z : Int) == 0) = false := by simp; omega
              have hi0 : (0 : Int) < (i : Int) := by omega
              clear hbad h9 h0
              go_wp2
              go_ret2
              exact ⟨rfl, rfl⟩
        · have hnext : gs (i + 1) ac2 (l.drop (i + 1)) = r := by
            rw [← HS.out, HSH.out.1, if_neg hlast, HSH.out.2.2.2 hlast]
          have HNX := Lib.hid (And.intro hnext HSH.out.2.1)
          have hz0 : ((z : Int) == 0) = false := by simp; omega
          have h9 : i ≠ 9 := fun h => hbad (.inl ⟨h, by omega⟩)
          have hb9 : ((i : Int) == 9) = false := by simp; omega
          clear hnext hbad
          go_wp2
          all_goals
            go_roundw
            case rel => exact ⟨i + 1, ac2, by omega, by go_num, rfl, HNX.out.2, HNX.out.1, by first | trivial | rfl⟩
            case measure => simp [intOf]; omega
    · obtain rfl : i = 10 := by omega
      have hr : r = none := by
        rw [← hgs]
        cases l.drop 10 with
        | nil => rfl
        | cons a b => unfold gs; rw [if_pos (by omega)]
      subst hr
      clear hgs hacc
      go_wp2
      go_ret2
      exact ⟨rfl, rfl⟩
set_option maxRecDepth 20000 in
set_option maxHeartbeats 2000000 in
theorem nsmall_short (l : List UInt8) (w : World) (hq : l.length ≤ 10) (hl : l.length ≤ 2199023255552) :
    Calls Try.prog 29 #[.string (bs l)] w fun e w' => e = .returned (gsV (gs 0 0 l)) ∧ w = w' := by
  have hz := bs_size l
  have HG : ∀ (i : Nat) (h : i < (bs l).size) (h2 : i < l.length), (bs l)[i]'h = l[i]'h2 := fun _ _ _ => rfl
  obtain ⟨X, hX⟩ : ∃ X, bs l = X := ⟨_, rfl⟩
  rw [hX] at hz HG ⊢
  have HGG := Lib.hid HG
  clear hX HG
  obtain ⟨r, hr⟩ : ∃ r, gs 0 0 l = r := ⟨_, rfl⟩
  rw [hr]
  have HR := Lib.hid hr
  clear hr
  obtain ⟨q, hql⟩ : ∃ q, l.length = q := ⟨_, rfl⟩
  rw [hql] at hz hq hl
  go_enter Try.func29, Try.ntmps29
  go_wp2_with fail
  go_loopw [4, 10] (fun v4 v10 wr => ∃ (i acc : Nat), i ≤ q ∧ v10 = .int .i64 i ∧ v4 = .int .u64 acc ∧ acc < 128 ^ i ∧ gs i acc (l.drop i) = r ∧ wr = w) (fun _ v10 _ => 10 - (intOf v10).toNat)
  case atStart => exact ⟨0, 0, by omega, rfl, rfl, by simp, HR.out, rfl⟩
  case round =>
    obtain ⟨i, acc, hi, rfl, rfl, hacc, hgs, rfl⟩ := hrel
    by_cases hlt : i < q
    · have hil : i < l.length := by omega
      have hix : i < X.size := by omega
      have hg := HGG.out i hix hil
      have hd := List.drop_eq_getElem_cons hil
      obtain ⟨y, hy⟩ : ∃ y, l[i] = y := ⟨_, rfl⟩
      rw [hy] at hg hd
      rw [hd] at hgs
      have hyl := y.toNat_lt
      have han := andNot_byte y
      have HS := Lib.hid hgs
      have HACC := Lib.hid hacc
      clear hgs hd hy hacc
      have i0 : (0 : Int) ≤ (i : Int) := by omega
      have i1 : (i : Int) < (q : Int) := by omega
      obtain ⟨z, hyz⟩ : ∃ z, y.toNat = z := ⟨_, rfl⟩
      have hgz : X[i].toNat = z := by rw [hg]; exact hyz
      rw [hyz] at han hyl
      have HYZ := Lib.hid hyz
      clear hg hyz
      by_cases hbad : (i = 9 ∧ 1 < z) ∨ (0 < i ∧ z = 0)
      · have hr : r = none := by
          rw [← HS.out]; unfold gs; rw [if_neg (by omega), if_pos (by rw [HYZ.out]; exact hbad)]
        subst hr
        rcases hbad with ⟨rfl, hb⟩ | ⟨h0, rfl⟩
        · go_wp2
          go_ret2
          exact ⟨rfl, rfl⟩
        · by_cases h9 : i = 9
          · subst h9
            go_wp2
            go_ret2
            exact ⟨rfl, rfl⟩
          · have hb9 : ((i : Int) == 9) = false := by simp; omega
            go_wp2
            go_ret2
            exact ⟨rfl, rfl⟩
      · have hgs2 : gs i acc (y :: l.drop (i + 1)) = if z < 128 then some (acc + z * 128 ^ i, i + 1) else gs (i + 1) (acc + (z - 128) * 128 ^ i) (l.drop (i + 1)) := by
          rw [← HYZ.out]; rw [← HYZ.out] at hbad
          conv => lhs; unfold gs
          rw [if_neg (by omega), if_neg hbad]
        have hpow : (128 : Nat) ^ i = 2 ^ (7 * i) := by rw [Nat.pow_mul]
        have hfit : acc + z % 128 * 2 ^ (7 * i) < 18446744073709551616 := by
          have ha := HACC.out
          rw [hpow] at ha
          by_cases h9 : i = 9
          · subst h9
            have : z ≤ 1 := by omega
            have : z % 128 ≤ 1 := by omega
            have e : (2 : Nat) ^ (7 * 9) = 9223372036854775808 := by decide
            rw [e] at ha ⊢
            omega
          · have h1 : acc + z % 128 * 2 ^ (7 * i) < 128 * 2 ^ (7 * i) := by
              have h2 : z % 128 ≤ 127 := by omega
              have h3 := Nat.mul_le_mul_right (2 ^ (7 * i)) h2
              omega
            have h4 : 128 * 2 ^ (7 * i) = 2 ^ (7 * i + 7) := by rw [Nat.pow_add, Nat.mul_comm]
            have h5 : (2 : Nat) ^ (7 * i + 7) ≤ 2 ^ 63 := Nat.pow_le_pow_right (by omega) (by omega)
            have h6 : (2 : Nat) ^ 63 = 9223372036854775808 := by decide
            omega
        have hor := or_u64 acc (z % 128) (7 * i) (by rw [← hpow]; exact HACC.out) hfit
        obtain ⟨sh, hsh⟩ : ∃ sh, z % 128 * 2 ^ (7 * i) = sh := ⟨_, rfl⟩
        rw [hsh] at hor hfit
        have hw : IntKind.u64.wrap (((z % 128 : Nat) : Int) * 2 ^ (7 * (i : Int)).toNat) = (sh : Int) := by
          have e : (7 * (i : Int)).toNat = 7 * i := by omega
          rw [e, IntKind.wrap_u64]
          have : ((z % 128 : Nat) : Int) * 2 ^ (7 * i) = (sh : Int) := by rw [← hsh, Int.natCast_mul, Int.natCast_pow]; rfl
          rw [this]; omega
        have hnx : acc + z % 128 * 2 ^ (7 * i) < 128 ^ (i + 1) := by
          have ha := HACC.out
          have h2 : z % 128 ≤ 127 := by omega
          have h3 := Nat.mul_le_mul_right (128 ^ i) h2
          rw [← hpow, Nat.pow_succ]; omega
        have hone : z < 128 → acc + z * 128 ^ i = acc + z % 128 * 2 ^ (7 * i) := fun h => by rw [hpow, Nat.mod_eq_of_lt h]
        have htwo : ¬ z < 128 → acc + (z - 128) * 128 ^ i = acc + z % 128 * 2 ^ (7 * i) := fun h => by rw [hpow, show z - 128 = z % 128 by omega]
        rw [hsh] at hnx hone htwo
        have HSH := Lib.hid (And.intro hgs2 (And.intro hnx (And.intro hone htwo)))
        obtain ⟨zl, hzl⟩ : ∃ zl, z % 128 = zl := ⟨_, rfl⟩
        rw [hzl] at hw han
        have hzl2 : zl < 128 := by omega
        obtain ⟨ac2, hac⟩ : ∃ ac2, acc + sh = ac2 := ⟨_, rfl⟩
        rw [hac] at HSH hor
        clear hsh hpow hgs2 hzl hnx hone htwo hfit hac
        by_cases hlast : z < 128
        · have hrr : r = some (ac2, i + 1) := by
            rw [← HS.out, HSH.out.1, if_pos hlast, HSH.out.2.2.1 hlast]
          subst hrr
          by_cases h9 : i = 9
          · have hz1 : ¬ 1 < z := fun h => hbad (.inl ⟨h9, h⟩)
            have hz0 : ¬ z = 0 := fun h => hbad (.inr ⟨by omega, h⟩)
            have hb9 : ((i : Int) == 9) = true := by simp; omega
            have hbz : ((z : Int) == 0) = false := by simp; omega
            have hi0 : (0 : Int) < (i : Int) := by omega
            clear hbad h9
            go_wp2
            go_ret2
            exact ⟨rfl, rfl⟩
          · have hb9 : ((i : Int) == 9) = false := by simp; omega
            by_cases h0 : i = 0
            · have hi0 : ¬ (0 : Int) < (i : Int) := by omega
              clear hbad h9 h0
              go_wp2
              go_ret2
              exact ⟨rfl, rfl⟩
            · have hz0 : ¬ z = 0 := fun h => hbad (.inr ⟨by omega, h⟩)
              have hbz : ((z : Int) == 0) = false := by simp; omega
              have hi0 : (0 : Int) < (i : Int) := by omega
              clear hbad h9 h0
              go_wp2
              go_ret2
              exact ⟨rfl, rfl⟩
        · have hnext : gs (i + 1) ac2 (l.drop (i + 1)) = r := by
            rw [← HS.out, HSH.out.1, if_neg hlast, HSH.out.2.2.2 hlast]
          have HNX := Lib.hid (And.intro hnext HSH.out.2.1)
          have hz0 : ((z : Int) == 0) = false := by simp; omega
          have h9 : i ≠ 9 := fun h => hbad (.inl ⟨h, by omega⟩)
          have hb9 : ((i : Int) == 9) = false := by simp; omega
          clear hnext hbad
          go_wp2
          all_goals
            go_roundw
            case rel => exact ⟨i + 1, ac2, by omega, by go_num, rfl, HNX.out.2, HNX.out.1, by first | trivial | rfl⟩
            case measure => simp [intOf]; omega
    · obtain rfl : i = q := by omega
      have hr : r = none := by
        rw [← hgs]
        rw [List.drop_eq_nil_of_le (by omega)]; rfl
      subst hr
      clear hgs hacc
      go_wp2
      go_ret2
      exact ⟨rfl, rfl⟩
theorem nsmall_any (l : List UInt8) (w : World) (hl : l.length ≤ 2199023255552) :
    Calls Try.prog 29 #[.string (bs l)] w fun e w' => e = .returned (gsV (gs 0 0 l)) ∧ w = w' := by
  by_cases h : 10 < l.length
  · exact nsmall_long l w h hl
  · exact nsmall_short l w (by omega) hl
end Go.Proofs.Ytmaehbcjcifchaa.FrW
